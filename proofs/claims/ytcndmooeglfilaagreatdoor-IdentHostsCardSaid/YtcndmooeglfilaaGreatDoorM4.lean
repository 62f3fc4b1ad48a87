/- Texts of this claim, laid together: WebP, WebQ, VcB, Row, IdxAny, Ascii, Bytes, Ascii2, Lib, Bld, Bld2, Pct, Uri, UriW, UriW2, RefUri, RefUri2, RefPct, RefPct2, PctD. -/
import Derived.Lib.OthersKept
import Derived.Deep.QuietTactic
import Derived.BigQuiet
import Derived.Test.YtcndmooeglfilaaGreatDoorProg
import Derived.Lib.ConvBytes
import Derived.Laws.IdiomStrings
import Derived.Test.YtcndmooeglfilaaGreatDoorM3
/- Plain functions and laws of package didweb. -/
set_option linter.all false
namespace Wf
open Go Go.RowKit
def webS : Bytes := [119, 101, 98]
def rootS : Bytes := [47, 46, 119, 101, 108, 108, 45, 107, 110, 111, 119, 110, 47, 100, 105, 100, 46, 106, 115, 111, 110]
def lastS : Bytes := [100, 105, 100, 46, 106, 115, 111, 110]
def didAuth (d : Did) : (Bytes × Int) × Int :=
  if d.method ≠ webS then (([], 0), 100)
  else if (didParse (didText d)).2 ≠ 0 then (([], 0), (didParse (didText d)).2)
  else hostPort (pctDecode (cutC 58 d.id).1).1
def segOk (x : Bytes) : Bool := (pctDecode x).2 == 0 && (pctDecode x).1 != [] && (pctDecode x).1 != [46] && (pctDecode x).1 != [46, 46]
def segUp (x : Bytes) : Bytes := 47 :: pctEncode [] (pctDecode x).1
def toPath (l : List Bytes) : Bytes := if l = [] then rootS else l.flatMap segUp ++ 47 :: lastS
def toUrlEnd (u : Url) : Url × Int := if 4096 < (urlText u).length then (Url.none, 5) else (u, 0)
def toUrl (d : Did) : Url × Int :=
  if (didAuth d).2 ≠ 0 then (Url.none, (didAuth d).2)
  else if (splitC 58 d.id).tail.all segOk = false then (Url.none, 110)
  else toUrlEnd ⟨(didAuth d).1.1, (didAuth d).1.2, toPath (splitC 58 d.id).tail, [], [], false, false⟩
def downC (c : UInt8) : Bool := c == 37 || unres c
def downOk (x : Bytes) : Bool := x.all downC && (pctDecode x).2 == 0 && (pctDecode x).1 != []
def segDown (x : Bytes) : Bytes := 58 :: didEsc (pctDecode x).1
def idBase (u : Url) : Bytes := u.host ++ (if u.port = 0 then [] else [37, 51, 65] ++ decS u.port.natAbs)
def fromEnd (d : Did) : Did × Int := if 4096 < (didText d).length then (Did.none, 5) else (d, 0)
def fromSegs (u : Url) (l : List Bytes) : Did × Int :=
  if u.path = rootS then fromEnd ⟨webS, idBase u⟩
  else if l.all downOk = false then (Did.none, 110)
  else fromEnd ⟨webS, idBase u ++ l.flatMap segDown⟩
def fromUrl (u : Url) : Did × Int :=
  if urlValid u = false then (Did.none, 8)
  else if u.hasQuery = true ∨ u.hasFrag = true ∨ (splitC 47 u.path).tail.getLast? ≠ some lastS then (Did.none, 6)
  else if (splitC 47 u.path).tail.length = 1 then (Did.none, 110)
  else fromSegs u (splitC 47 u.path).tail.dropLast
def didCano (d : Did) : Did × Int := if (toUrl d).2 ≠ 0 then (Did.none, (toUrl d).2) else fromUrl (toUrl d).1
/-! splitting and joining -/
theorem splitC_join (c : UInt8) : ∀ (l : List Bytes) (x : Bytes), c ∉ x → (∀ y ∈ l, c ∉ y) → splitC c (x ++ l.flatMap (c :: ·)) = x :: l
  | [], x, hx, _ => by
    rw [List.flatMap_nil, List.append_nil]
    exact splitC_miss (by rw [pre_none hx]; omega)
  | y :: l, x, hx, hl => by
    have hp : pre (· == c) (x ++ (y :: l).flatMap (c :: ·)) = x.length := by
      rw [List.flatMap_cons, List.cons_append]
      exact pre_app (pre_none hx) c _ (by simp)
    rw [splitC_hit (by rw [hp]; simp), hp, List.take_left, ← List.drop_drop, List.drop_left, List.flatMap_cons, List.cons_append, List.drop_succ_cons, List.drop_zero,
      splitC_join c l y (hl y List.mem_cons_self) (fun z hz => hl z (List.mem_cons_of_mem _ hz))]
theorem split_parts (c : UInt8) : ∀ (n : Nat) (s : Bytes), s.length ≤ n → ∃ x l, splitC c s = x :: l ∧ s = x ++ l.flatMap (c :: ·) ∧ c ∉ x ∧ ∀ y ∈ l, c ∉ y
  | n, s, h => by
    by_cases hp : pre (· == c) s < s.length
    · match n, h with
      | 0, h => omega
      | n + 1, h =>
        obtain ⟨x, l, e1, e2, e3, e4⟩ := split_parts c n (s.drop (pre (· == c) s + 1)) (by simp; omega)
        refine ⟨s.take (pre (· == c) s), x :: l, by rw [splitC_hit hp, e1], ?_, ?_, ?_⟩
        · have := pre_at hp
          simp only [beq_iff_eq] at this
          conv => lhs; rw [← List.take_append_drop (pre (· == c) s) s, List.drop_eq_getElem_cons hp, this, e2]
          simp
        · intro hm
          have h1 := (pre_take (· == c) s)
          obtain ⟨k, hk, e⟩ := List.getElem_of_mem hm
          have := pre_get (p := (· == c)) (l := s.take (pre (· == c) s)) (k := k) (by omega) hk
          rw [e] at this
          simp at this
        · intro y hy
          rcases List.mem_cons.1 hy with rfl | hy
          · exact e3
          · exact e4 y hy
    · refine ⟨s, [], splitC_miss hp, by simp, fun hm => ?_, by simp⟩
      obtain ⟨k, hk, e⟩ := List.getElem_of_mem hm
      have := pre_get (p := (· == c)) (l := s) (k := k) (by omega) hk
      rw [e] at this
      simp at this
/-! encodings -/
theorem can_enc (also s : Bytes) : Can also (pctEncode [] s) := by
  induction s with
  | nil => exact can_nil _
  | cons c s ih =>
    show Can also (encB [] c ++ pctEncode [] s)
    refine can_app ?_ ih
    unfold encB
    cases h : unres c
    · simp; exact can_esc also h
    · simp; exact can_one (by unfold keepB; rw [h]; rfl) (unres_ne h)
theorem enc_no47 (s : Bytes) : (47 : UInt8) ∉ pctEncode [] s := by
  intro hc
  obtain ⟨d, -, hd⟩ := List.mem_flatMap.1 hc
  have h1 := all256 (p := fun d => (encB [] d).all fun c => c != 47) (by decide +kernel) d
  have := List.all_eq_true.1 h1 _ hd
  simp at this
theorem enc_inj {s t : Bytes} (h : pctEncode [] s = pctEncode [] t) : s = t := by
  have h1 := (units_encode [] s).1
  rw [h, (units_encode [] t).1] at h1
  exact h1.symm
theorem didEsc_units : ∀ s : Bytes, (units (didEsc s)).map PU.val = s ∧ PU.bad ∉ units (didEsc s)
  | [] => ⟨rfl, by simp [didEsc, units_nil]⟩
  | c :: s => by
    obtain ⟨h1, h2⟩ := didEsc_units s
    have e : didEsc (c :: s) = didB c ++ didEsc s := rfl
    rw [e]
    unfold didB
    split
    · rename_i hc
      have hne : c ≠ 37 := by rintro rfl; exact absurd hc (by decide)
      rw [List.singleton_append, units_lit hne]
      exact ⟨by simp [PU.val, h1], by simpa using h2⟩
    · rw [units_esc]
      exact ⟨by simp [PU.val, h1, unhex_esc], by simpa using h2⟩
theorem decode_didEsc {s : Bytes} (h : (didEsc s).length ≤ 16384) : pctDecode (didEsc s) = (s, 0) := by
  obtain ⟨h1, h2⟩ := didEsc_units s
  unfold pctDecode
  rw [if_neg (by omega), if_neg h2, h1]
theorem didEsc_bytes (s : Bytes) : ∀ c ∈ didEsc s, c ≠ 58 := by
  intro c hc
  obtain ⟨d, -, hd⟩ := List.mem_flatMap.1 hc
  have h1 := all256 (p := fun d => (didB d).all fun c => c != 58) (by decide +kernel) d
  have := List.all_eq_true.1 h1 _ hd
  simpa using this
theorem canI_nil : CanI [] := ⟨[], rfl, by simp⟩
theorem canI_app {a b : Bytes} (ha : CanI a) (hb : CanI b) : CanI (a ++ b) := by
  obtain ⟨l, rfl, h1⟩ := ha
  obtain ⟨m, rfl, h2⟩ := hb
  exact ⟨l ++ m, by simp, fun x hx => by
    rcases List.mem_append.1 hx with h | h
    · exact h1 x h
    · exact h2 x h⟩
theorem canI_one {c : UInt8} (h : (plainD c || c == 58) = true) : CanI [c] := ⟨[.lit c], rfl, fun x hx => by
  obtain rfl := List.mem_singleton.1 hx; exact h⟩
theorem canI_esc {c : UInt8} (h : plainD c = false) : CanI (esc c) := ⟨[.hex (hexU (c.toNat / 16)) (hexU (c.toNat % 16))], rfl, fun x hx => by
  obtain rfl := List.mem_singleton.1 hx
  have hn := c.toNat_lt
  have hv := unhex_esc c
  exact ⟨by rw [hv]; exact h, by rw [hv], by rw [hv], hexU_hex _ (by omega), hexU_hex _ (by omega)⟩⟩
theorem canI_didEsc (s : Bytes) : CanI (didEsc s) := by
  induction s with
  | nil => exact canI_nil
  | cons c s ih =>
    show CanI (didB c ++ didEsc s)
    refine canI_app ?_ ih
    unfold didB
    cases h : plainD c
    · simp; exact canI_esc h
    · simp; exact canI_one (by rw [h]; rfl)
theorem canI_plain {s : Bytes} (h : ∀ c ∈ s, plainD c = true) : CanI s := by
  induction s with
  | nil => exact canI_nil
  | cons c s ih => exact canI_app (a := [c]) (canI_one (by rw [h c List.mem_cons_self]; rfl)) (ih fun d hd => h d (List.mem_cons_of_mem _ hd))
theorem host_plain {x : Bytes} (h : hostM x = (x, 0)) : ∀ c ∈ x, plainD c = true := by
  intro c hc
  have h1 := hostM_bytes h c hc
  have := all256 (p := fun c => !(ldh c || c == 46) || plainD c) (by decide +kernel) c
  have h2 : (ldh c || c == 46) = true := by rcases h1 with h | rfl <;> simp [*]
  rw [h2] at this
  simpa using this
theorem dig_plain (n : Nat) : ∀ c ∈ decS n, plainD c = true := by
  intro c hc
  have := decS_digits n c hc
  unfold plainD; rw [this]; simp
theorem host_ne {x : Bytes} (h : hostM x = (x, 0)) : x ≠ [] := by
  rintro rfl
  revert h; decide
structure HostOk (u : Url) : Prop where
  host : hostPort (hostText u.host u.port) = ((u.host, u.port), 0)
theorem idBase_facts {u : Url} (h : hostPort (hostText u.host u.port) = ((u.host, u.port), 0)) : CanI (idBase u) ∧ (58 : UInt8) ∉ idBase u ∧ idBase u ≠ [] ∧ (units (idBase u)).map PU.val = hostText u.host u.port ∧ PU.bad ∉ units (idBase u) := by
  obtain ⟨-, h1, -, -, h2, -⟩ := hostPort_back h
  have hp := host_plain h1
  have hpl : ∀ s : Bytes, (∀ c ∈ s, plainD c = true) → ∀ r, units (s ++ r) = s.map PU.lit ++ units r := by
    intro s
    induction s with
    | nil => intro _ r; rfl
    | cons c s ih =>
      intro hs r
      have := (plainD_no (c := c) (by rw [hs c List.mem_cons_self]; rfl)).1
      rw [List.cons_append, units_lit this, ih (fun d hd => hs d (List.mem_cons_of_mem _ hd))]
      rfl
  have vl : ∀ s : Bytes, (s.map PU.lit).map PU.val = s := by intro s; simp [Function.comp_def, PU.val]
  have n58 : ∀ s : Bytes, (∀ c ∈ s, plainD c = true) → (58 : UInt8) ∉ s := fun s hs hm => absurd (hs _ hm) (by decide)
  have nb : ∀ s : Bytes, PU.bad ∉ s.map PU.lit := by intro s; simp
  by_cases h0 : u.port = 0
  · have e : idBase u = u.host := by unfold idBase; rw [if_pos h0, List.append_nil]
    have e2 : hostText u.host u.port = u.host := by unfold hostText; rw [if_pos h0]
    have e3 := hpl u.host hp []
    rw [List.append_nil, units_nil, List.append_nil] at e3
    rw [e, e2, e3]
    exact ⟨canI_plain hp, n58 _ hp, host_ne h1, vl _, nb _⟩
  · have e : idBase u = u.host ++ ([37, 51, 65] ++ decS u.port.natAbs) := by unfold idBase; rw [if_neg h0]
    have e2 : hostText u.host u.port = u.host ++ [58] ++ decS u.port.natAbs := by unfold hostText; rw [if_neg h0, if_neg (by omega)]
    have e3 := hpl u.host hp ([37, 51, 65] ++ decS u.port.natAbs)
    have e4 := hpl _ (dig_plain u.port.natAbs) []
    rw [List.append_nil, units_nil, List.append_nil] at e4
    have e5 : units ([37, 51, 65] ++ decS u.port.natAbs) = .hex 51 65 :: units (decS u.port.natAbs) := units_hex (by decide) (by decide) _
    rw [e, e2, e3, e5, e4]
    refine ⟨canI_app (canI_plain hp) (canI_app (a := [37, 51, 65]) ⟨[.hex 51 65], rfl, fun x hx => ?_⟩ (canI_plain (dig_plain _))), ?_, by simp, ?_, ?_⟩
    · obtain rfl := List.mem_singleton.1 hx
      refine ⟨by decide, by decide, by decide, by decide, by decide⟩
    · simp only [List.mem_append, not_or]
      exact ⟨n58 _ hp, by decide, n58 _ (dig_plain _)⟩
    · rw [List.map_append, List.map_cons, vl, vl]
      simp [PU.val]
      decide
    · simp
theorem flat_last (c : UInt8) : ∀ (l : List Bytes), l ≠ [] → (∀ x ∈ l, x ≠ []) → (l.flatMap (c :: ·)).getLast? = (l.getLast?.getD []).getLast?
  | [], h, _ => absurd rfl h
  | [x], _, h => by
    have hx := h x List.mem_cons_self
    cases x with
    | nil => exact absurd rfl hx
    | cons a x => simp
  | x :: y :: l, _, h => by
    have ih := flat_last c (y :: l) (by simp) (fun z hz => h z (List.mem_cons_of_mem _ hz))
    rw [List.flatMap_cons, List.getLast?_append, ih]
    have hne : ((y :: l).getLast?.getD []) ≠ [] := by
      cases hl : (y :: l).getLast? with
      | none => simp at hl
      | some z => exact h z (List.mem_cons_of_mem _ (List.mem_of_getLast? hl))
    rw [List.getLast?_cons_cons]
    cases hz : ((y :: l).getLast?.getD []).getLast? with
    | none => rw [List.getLast?_eq_none_iff] at hz; exact absurd hz hne
    | some z => rfl
theorem web_can {u : Url} {ss : List Bytes} (hh : hostPort (hostText u.host u.port) = ((u.host, u.port), 0)) (hs : ∀ s ∈ ss, s ≠ [] ∧ s ≠ [46] ∧ s ≠ [46, 46])
    (hl : (didText ⟨webS, idBase u ++ ss.flatMap fun s => 58 :: didEsc s⟩).length ≤ 4096) : CanDid ⟨webS, idBase u ++ ss.flatMap fun s => 58 :: didEsc s⟩ := by
  obtain ⟨b1, b2, b3, b4, b5⟩ := idBase_facts hh
  have ef : (ss.flatMap fun s => 58 :: didEsc s) = (ss.map didEsc).flatMap (58 :: ·) := by rw [List.flatMap_map]
  have hne : ∀ s ∈ ss, didEsc s ≠ [] := fun s hm e => by
    have h1 : s ≠ [] := (hs s hm).1
    have := (didEsc_units s).1
    rw [e, units_nil] at this
    exact h1 this.symm
  refine ⟨show methodOk webS = true by decide, canI_app b1 ?_, by simp [b3], ?_⟩
  · clear hl hne hs ef
    induction ss with
    | nil => exact canI_nil
    | cons s ss ih => exact canI_app (canI_app (a := [58]) (canI_one (by decide)) (canI_didEsc s)) ih
  · simp only
    cases ss with
    | nil =>
      rw [List.flatMap_nil, List.append_nil]
      intro k
      exact b2 (List.mem_of_getLast? k)
    | cons s ss =>
      rw [ef, List.getLast?_append, flat_last 58 _ (by simp) (by
        intro x hx
        obtain ⟨t, ht, rfl⟩ := List.mem_map.1 hx
        exact hne t ht)]
      obtain ⟨t, ht, e⟩ : ∃ t ∈ s :: ss, ((s :: ss).map didEsc).getLast?.getD [] = didEsc t := by
        rw [List.getLast?_map]
        cases hq : (s :: ss).getLast? with
        | none => simp at hq
        | some t => exact ⟨t, List.mem_of_getLast? hq, rfl⟩
      rw [e]
      cases hz : (didEsc t).getLast? with
      | none => rw [List.getLast?_eq_none_iff] at hz; exact absurd hz (hne t ht)
      | some z =>
        intro k
        obtain rfl : z = 58 := by simpa using k
        exact didEsc_bytes t _ (List.mem_of_getLast? hz) rfl
theorem web_back {u : Url} {ss : List Bytes} (hh : hostPort (hostText u.host u.port) = ((u.host, u.port), 0)) (hs : ∀ s ∈ ss, s ≠ [] ∧ s ≠ [46] ∧ s ≠ [46, 46])
    (hl : (didText ⟨webS, idBase u ++ ss.flatMap fun s => 58 :: didEsc s⟩).length ≤ 4096) :
    didAuth ⟨webS, idBase u ++ ss.flatMap fun s => 58 :: didEsc s⟩ = ((u.host, u.port), 0) ∧ (splitC 58 (idBase u ++ ss.flatMap fun s => 58 :: didEsc s)).tail = ss.map didEsc ∧ (ss.map didEsc).all segOk = true ∧ ∀ s ∈ ss, (pctDecode (didEsc s)).1 = s := by
  obtain ⟨b1, b2, b3, b4, b5⟩ := idBase_facts hh
  have ef : (ss.flatMap fun s => 58 :: didEsc s) = (ss.map didEsc).flatMap (58 :: ·) := by rw [List.flatMap_map]
  have hlen : ∀ s ∈ ss, (didEsc s).length ≤ 4096 := by
    intro s hm
    have h1 : (didEsc s).length ≤ (ss.flatMap fun s => 58 :: didEsc s).length := by
      obtain ⟨p, q, rfl⟩ := List.append_of_mem hm
      simp; omega
    simp [didText] at hl
    simp at h1
    omega
  have hbl : (idBase u).length ≤ 4096 := by simp [didText] at hl; omega
  have hdec : ∀ s ∈ ss, pctDecode (didEsc s) = (s, 0) := fun s hm => decode_didEsc (by have := hlen s hm; omega)
  have hne : ∀ s ∈ ss, didEsc s ≠ [] := fun s hm e => by
    have := hdec s hm
    rw [e] at this
    exact (hs s hm).1 (Prod.mk.inj this).1.symm
  have hsp : splitC 58 (idBase u ++ ss.flatMap fun s => 58 :: didEsc s) = idBase u :: ss.map didEsc := by
    rw [ef]
    refine splitC_join 58 _ _ b2 fun y hy => ?_
    obtain ⟨s, -, rfl⟩ := List.mem_map.1 hy
    exact fun k => didEsc_bytes s _ k rfl
  have hcan := web_can hh hs hl
  have hr := did_read hcan hl
  refine ⟨?_, by rw [hsp]; rfl, List.all_eq_true.2 fun x hx => ?_, fun s hm => by rw [hdec s hm]⟩
  · unfold didAuth
    rw [if_neg (by simp), hr, if_neg (by simp)]
    simp only
    have hc : (cutC 58 (idBase u ++ ss.flatMap fun s => 58 :: didEsc s)).1 = idBase u := by
      cases ss with
      | nil => rw [List.flatMap_nil, List.append_nil, cutC_none (pre_none b2)]
      | cons s ss => rw [List.flatMap_cons, List.cons_append, cutC_some (pre_none b2)]
    rw [hc]
    have hd : pctDecode (idBase u) = (hostText u.host u.port, 0) := by
      unfold pctDecode
      rw [if_neg (by omega), if_neg b5, b4]
    rw [hd]
    exact hh
  · obtain ⟨s, hm, rfl⟩ := List.mem_map.1 hx
    unfold segOk
    rw [hdec s hm]
    have := hs s hm
    simp [this.1, this.2.1, this.2.2]
theorem toUrl_facts {d : Did} {u : Url} (h : toUrl d = (u, 0)) : didAuth d = ((u.host, u.port), 0) ∧ hostPort (hostText u.host u.port) = ((u.host, u.port), 0) ∧ (∃ ss : List Bytes, (∀ s ∈ ss, s ≠ [] ∧ s ≠ [46] ∧ s ≠ [46, 46]) ∧ u = ⟨u.host, u.port, if ss = [] then rootS else ss.flatMap (fun s => 47 :: pctEncode [] s) ++ 47 :: lastS, [], [], false, false⟩) ∧ (urlText u).length ≤ 4096 := by
  unfold toUrl at h
  split at h
  · rename_i h1; exact absurd (Prod.mk.inj h).2 h1
  rename_i h1
  split at h
  · simp at h
  rename_i h2
  unfold toUrlEnd at h
  split at h
  · simp at h
  rename_i h3
  simp only [Prod.mk.injEq, and_true] at h
  subst h
  have h1 : (didAuth d).2 = 0 := by simpa using h1
  have e : didAuth d = (((didAuth d).1.1, (didAuth d).1.2), 0) := by rw [← h1]
  refine ⟨e, ?_, ⟨(splitC 58 d.id).tail.map fun x => (pctDecode x).1, ?_, ?_⟩, by omega⟩
  · simp only
    unfold didAuth at e h1 ⊢
    split at h1
    · simp at h1
    rename_i k1
    rw [if_neg k1] at e ⊢
    split at h1
    · rename_i k2; exact absurd h1 k2
    rename_i k2
    rw [if_neg k2] at e ⊢
    exact (hostPort_back e).1
  · intro s hs
    obtain ⟨x, hx, rfl⟩ := List.mem_map.1 hs
    have h2 : (splitC 58 d.id).tail.all segOk = true := by simpa using h2
    have := List.all_eq_true.1 h2 x hx
    unfold segOk at this
    simp only [Bool.and_eq_true, bne_iff_ne, ne_eq] at this
    exact ⟨this.1.1.2, this.1.2, this.2⟩
  · simp only [Url.mk.injEq, true_and, and_true]
    unfold toPath
    by_cases k : (splitC 58 d.id).tail = []
    · rw [if_pos k, if_pos (by rw [k]; rfl)]
    · rw [if_neg k, if_neg (by rw [List.map_eq_nil_iff]; exact k), List.flatMap_map]
      rfl
theorem seg_good {s : Bytes} (h : s ≠ [46] ∧ s ≠ [46, 46]) : goodSeg (pctEncode [] s) := by
  refine ⟨enc_no47 s, fun e => h.1 (enc_inj (e.trans (by decide))), fun e => h.2 (enc_inj (e.trans (by decide)))⟩
theorem path_abs (ss : List Bytes) : ss.flatMap (fun s => 47 :: pctEncode [] s) ++ 47 :: lastS = absP (ss.map (pctEncode []) ++ [lastS]) := by
  unfold absP
  rw [List.flatMap_append, List.flatMap_map]
  simp
theorem path_can {ss : List Bytes} (h : ∀ s ∈ ss, s ≠ [] ∧ s ≠ [46] ∧ s ≠ [46, 46]) : Can inPath (ss.flatMap (fun s => 47 :: pctEncode [] s) ++ 47 :: lastS) ∧ (∃ r, ss.flatMap (fun s => 47 :: pctEncode [] s) ++ 47 :: lastS = 47 :: r) ∧ removeDots (ss.flatMap (fun s => 47 :: pctEncode [] s) ++ 47 :: lastS) = ss.flatMap (fun s => 47 :: pctEncode [] s) ++ 47 :: lastS := by
  refine ⟨can_app ?_ ?_, ?_, ?_⟩
  · clear h
    induction ss with
    | nil => exact can_nil _
    | cons s ss ih => exact can_app (can_app (a := [47]) (can_one (by decide) (by decide)) (can_enc _ s)) ih
  · refine ⟨(47 :: lastS).map PU.lit, by decide, ?_⟩
    intro x hx
    obtain ⟨c, hc, rfl⟩ := List.mem_map.1 hx
    show keepB inPath c = true ∧ c ≠ 37
    revert c; decide
  · cases ss with
    | nil => exact ⟨_, rfl⟩
    | cons s ss => exact ⟨_, rfl⟩
  · rw [path_abs]
    show dotsGo _ _ [] = _
    rw [dotsGo_same _ _ _ (Nat.le_refl _), List.nil_append]
    intro x hx
    rcases List.mem_append.1 hx with hx | hx
    · obtain ⟨s, hs, rfl⟩ := List.mem_map.1 hx
      exact seg_good (h s hs).2
    · obtain rfl := List.mem_singleton.1 hx
      refine ⟨by decide, by decide, by decide⟩
theorem root_can : Can inPath rootS ∧ removeDots rootS = rootS := by
  refine ⟨⟨rootS.map PU.lit, by decide, ?_⟩, by decide +kernel⟩
  intro x hx
  obtain ⟨c, hc, rfl⟩ := List.mem_map.1 hx
  show keepB inPath c = true ∧ c ≠ 37
  revert c; decide
theorem toUrl_can {d : Did} {u : Url} (h : toUrl d = (u, 0)) : CanUrl u ∧ u.hasQuery = false ∧ u.hasFrag = false ∧ didAuth d = ((u.host, u.port), 0) := by
  obtain ⟨h1, h2, ⟨ss, h3, h4⟩, h5⟩ := toUrl_facts h
  have hq : u.hasQuery = false := by rw [h4]
  have hf : u.hasFrag = false := by rw [h4]
  have hqu : u.query = [] := by rw [h4]
  have hfr : u.fragment = [] := by rw [h4]
  have hp : Can inPath u.path ∧ (∃ r, u.path = 47 :: r) ∧ removeDots u.path = u.path := by
    rw [h4]
    simp only
    split
    · exact ⟨root_can.1, ⟨_, rfl⟩, root_can.2⟩
    · exact path_can h3
  exact ⟨⟨h2, hp.1, hp.2.1, hp.2.2, by rw [hqu]; exact can_nil _, by rw [hfr]; exact can_nil _, fun _ => hqu, fun _ => hfr, h5⟩, hq, hf, h1⟩
theorem fromEnd_ok {d c : Did} (h : fromEnd d = (c, 0)) : c = d ∧ (didText d).length ≤ 4096 := by
  unfold fromEnd at h
  split at h
  · simp at h
  · exact ⟨(Prod.mk.inj h).1.symm, by omega⟩
theorem toUrl_of {u : Url} {ss : List Bytes} (hu : CanUrl u) (hq : u.hasQuery = false) (hf : u.hasFrag = false) (hs : ∀ s ∈ ss, s ≠ [] ∧ s ≠ [46] ∧ s ≠ [46, 46]) (hp : u.path = if ss = [] then rootS else ss.flatMap (fun s => 47 :: pctEncode [] s) ++ 47 :: lastS)
    (hl : (didText ⟨webS, idBase u ++ ss.flatMap fun s => 58 :: didEsc s⟩).length ≤ 4096) : toUrl ⟨webS, idBase u ++ ss.flatMap fun s => 58 :: didEsc s⟩ = (u, 0) := by
  obtain ⟨h1, h2, h3, h4⟩ := web_back hu.host hs hl
  have e : toPath (ss.map didEsc) = u.path := by
    rw [hp]
    unfold toPath
    by_cases k : ss = []
    · rw [if_pos (by rw [k]; rfl), if_pos k]
    · rw [if_neg (by simpa using k), if_neg k, List.flatMap_map]
      congr 1
      clear hp hl h1 h2 h3 k hs
      induction ss with
      | nil => rfl
      | cons s ss ih =>
        rw [List.flatMap_cons, List.flatMap_cons, ih (fun t ht => h4 t (List.mem_cons_of_mem _ ht)), segUp, h4 s List.mem_cons_self]
  unfold toUrl
  rw [h1, if_neg (by simp)]
  simp only
  rw [h2, h3, if_neg (by simp), e]
  have eu : (⟨u.host, u.port, u.path, [], [], false, false⟩ : Url) = u := by
    have q1 := hu.noq hq
    have q2 := hu.nof hf
    obtain ⟨a, b, c, d, f, g, h⟩ := u
    simp only at hq hf q1 q2
    subst hq hf q1 q2
    rfl
  rw [eu]
  unfold toUrlEnd
  rw [if_neg (by have := hu.len; omega)]
theorem flat_can {also : Bytes} : ∀ (l : List Bytes) (x : Bytes), Can also (x ++ l.flatMap (47 :: ·)) → Can also x ∧ ∀ y ∈ l, Can also y
  | [], x, h => ⟨by simpa using h, by simp⟩
  | y :: l, x, h => by
    rw [List.flatMap_cons, List.cons_append] at h
    obtain ⟨h1, h2⟩ := h.split (by decide) (by decide)
    obtain ⟨h3, h4⟩ := flat_can l y (can_tail (by decide) h2).2
    refine ⟨h1, fun z hz => ?_⟩
    rcases List.mem_cons.1 hz with rfl | hz
    · exact h3
    · exact h4 z hz
theorem enc_back {also x : Bytes} (h : Can also x) (hd : x.all downC = true) : pctEncode [] (pctDecode x).1 = x ∨ 16384 < x.length := by
  by_cases hl : 16384 < x.length
  · exact .inr hl
  left
  obtain ⟨l, rfl, hk⟩ := h
  have hu := units_can also l hk
  have hb : PU.bad ∉ units (l.flatMap PU.str) := by rw [hu]; exact fun k => (hk _ k).elim
  unfold pctDecode
  rw [if_neg hl, if_neg hb, hu]
  clear hu hb hl
  simp only
  induction l with
  | nil => rfl
  | cons y l ih =>
    rw [List.flatMap_cons, List.all_append, Bool.and_eq_true] at hd
    have ih := ih (fun z hz => hk z (List.mem_cons_of_mem _ hz)) hd.2
    have hy := hk y List.mem_cons_self
    rw [List.flatMap_cons, List.map_cons]
    show encB [] y.val ++ pctEncode [] (l.map PU.val) = _
    rw [ih]
    congr 1
    cases y with
    | lit c =>
      have : downC c = true := by simpa [PU.str] using hd.1
      unfold downC at this
      have h37 : (c == 37) = false := by simpa using hy.2
      rw [h37, Bool.false_or] at this
      simp [PU.val, encB, this, PU.str]
    | hex a b =>
      simp only [PU.val, encB, hy.1, PU.str]
      rw [if_neg (by simp)]
      unfold esc
      rw [← hy.2.1, ← hy.2.2.1]
    | bad => exact hy.elim
theorem from_to {u : Url} {x : Did} (hu : CanUrl u) (h : fromUrl u = (x, 0)) : toUrl x = (u, 0) ∧ ∃ ss : List Bytes, x = ⟨webS, idBase u ++ ss.flatMap fun s => 58 :: didEsc s⟩ ∧ (didText x).length ≤ 4096 ∧ ∀ s ∈ ss, s ≠ [] ∧ s ≠ [46] ∧ s ≠ [46, 46] := by
  unfold fromUrl at h
  split at h
  · simp at h
  split at h
  · simp at h
  rename_i h1 h2
  simp only [not_or, ne_eq, Classical.not_not] at h2
  obtain ⟨h2, h3, h4⟩ := h2
  have h2 : u.hasQuery = false := by simpa using h2
  have h3 : u.hasFrag = false := by simpa using h3
  split at h
  · simp at h
  rename_i h5
  unfold fromSegs at h
  split at h
  · rename_i h6
    obtain ⟨rfl, hl⟩ := fromEnd_ok h
    refine ⟨?_, [], by simp, hl, by simp⟩
    have := toUrl_of (ss := []) hu h2 h3 (by simp) (by rw [if_pos rfl]; exact h6) (by simpa using hl)
    simpa using this
  rename_i h6
  split at h
  · simp at h
  rename_i h7
  have h7 : (splitC 47 u.path).tail.dropLast.all downOk = true := by simpa using h7
  obtain ⟨x0, l0, e1, e2, e3, e4⟩ := split_parts 47 _ u.path (Nat.le_refl _)
  obtain ⟨r, hr⟩ := hu.slash
  have hx0 : x0 = [] := by
    cases x0 with
    | nil => rfl
    | cons a x0 =>
      rw [e2] at hr
      have : a = 47 := by simpa using (List.cons.inj hr).1
      subst this
      exact absurd List.mem_cons_self e3
  subst hx0
  rw [e1, List.tail_cons] at h h4 h5 h7
  rw [List.nil_append] at e2
  obtain ⟨l, rfl⟩ : ∃ l, l0 = l ++ [lastS] := by
    have hne : l0 ≠ [] := by rintro rfl; simp at h4
    refine ⟨l0.dropLast, ?_⟩
    have := List.dropLast_concat_getLast hne
    rw [List.getLast?_eq_some_getLast hne] at h4
    rw [← Option.some.inj h4]; exact this.symm
  rw [List.dropLast_concat] at h h7
  obtain ⟨rfl, hl⟩ := fromEnd_ok h
  have hcan : ∀ y ∈ l, Can inPath y := by
    have := hu.path
    rw [e2] at this
    exact fun y hy => (flat_can (l ++ [lastS]) [] (by simpa using this)).2 y (List.mem_append_left _ hy)
  have hdot : ∀ y ∈ l, y ≠ [46] ∧ y ≠ [46, 46] := by
    intro y hy
    have hc := (clean_segs r).2
    have hd := hu.dots
    rw [hr] at hd
    rw [hd] at hc
    rw [hr] at e1
    exact hc y (by rw [e1]; exact List.mem_cons_of_mem _ (List.mem_append_left _ hy))
  have hplen : u.path.length ≤ 4096 := by have := (urlText_len u).1; have := hu.len; omega
  have hyl : ∀ y ∈ l, y.length ≤ 4096 := by
    intro y hy
    have : y.length ≤ u.path.length := by
      rw [e2]
      obtain ⟨p, q, rfl⟩ := List.append_of_mem hy
      simp; omega
    omega
  have henc : ∀ y ∈ l, pctEncode [] (pctDecode y).1 = y := by
    intro y hy
    have hd := List.all_eq_true.1 h7 y hy
    unfold downOk at hd
    simp only [Bool.and_eq_true] at hd
    rcases enc_back (hcan y hy) hd.1.1 with k | k
    · exact k
    · have := hyl y hy; omega
  have hss : ∀ s ∈ l.map (fun y => (pctDecode y).1), s ≠ [] ∧ s ≠ [46] ∧ s ≠ [46, 46] := by
    intro s hs
    obtain ⟨y, hy, rfl⟩ := List.mem_map.1 hs
    have hd := List.all_eq_true.1 h7 y hy
    unfold downOk at hd
    simp only [Bool.and_eq_true, bne_iff_ne, ne_eq] at hd
    have he := henc y hy
    refine ⟨hd.2, fun k => (hdot y hy).1 ?_, fun k => (hdot y hy).2 ?_⟩
    · rw [← he, k]; decide
    · rw [← he, k]; decide
  have hid : l.flatMap segDown = (l.map (fun y => (pctDecode y).1)).flatMap fun s => 58 :: didEsc s := by
    rw [List.flatMap_map]; rfl
  have hpath : u.path = if l.map (fun y => (pctDecode y).1) = [] then rootS else (l.map (fun y => (pctDecode y).1)).flatMap (fun s => 47 :: pctEncode [] s) ++ 47 :: lastS := by
    rw [if_neg (by intro k; rw [List.map_eq_nil_iff] at k; subst k; simp at h5)]
    rw [e2, List.flatMap_append, List.flatMap_map]
    have : ∀ m : List Bytes, (∀ y ∈ m, pctEncode [] (pctDecode y).1 = y) → m.flatMap (fun y => 47 :: pctEncode [] (pctDecode y).1) = m.flatMap (47 :: ·) := by
      intro m
      induction m with
      | nil => intro _; rfl
      | cons y m ih =>
        intro hm
        rw [List.flatMap_cons, List.flatMap_cons, ih (fun z hz => hm z (List.mem_cons_of_mem _ hz)), hm y List.mem_cons_self]
    rw [this l henc]
    simp
  rw [hid] at hl ⊢
  exact ⟨toUrl_of hu h2 h3 hss hpath hl, _, rfl, hl, hss⟩
theorem canon_inverse {d c : Did} (h : didCano d = (c, 0)) : ∃ u, CanUrl u ∧ toUrl c = (u, 0) ∧ fromUrl u = (c, 0) ∧ didCano c = (c, 0) ∧ didAuth c = ((u.host, u.port), 0) ∧ didParse (didText c) = (c, 0) ∧ (∃ r, c.id = idBase u ++ r) ∧ c.method = webS := by
  unfold didCano at h
  split at h
  · rename_i h1; exact absurd (Prod.mk.inj h).2 h1
  rename_i h1
  have e : toUrl d = ((toUrl d).1, 0) := by
    have : (toUrl d).2 = 0 := by simpa using h1
    rw [← this]
  obtain ⟨hu, -⟩ := toUrl_can e
  obtain ⟨h2, ss, h3, h4, h5⟩ := from_to hu h
  have hw := web_back hu.host h5 (by rw [← h3]; exact h4)
  rw [← h3] at hw
  have hc : CanDid c := by
    have hl : (didText ⟨webS, idBase (toUrl d).1 ++ ss.flatMap fun s => 58 :: didEsc s⟩).length ≤ 4096 := by rw [← h3]; exact h4
    have := web_can hu.host h5 hl
    rw [← h3] at this
    exact this
  exact ⟨_, hu, h2, h, by unfold didCano; rw [h2]; simp only [ne_eq, not_true, if_false]; exact h, hw.1, did_read hc h4, ⟨ss.flatMap fun s => 58 :: didEsc s, by rw [h3]⟩, by rw [h3]⟩
end Wf
/- Plain: what the walks of didweb need. -/
set_option linter.all false
namespace Wf
open Go Go.RowKit
theorem cut_head (c : UInt8) (s : Bytes) : ∃ l, splitC c s = (cutC c s).1 :: l := by
  by_cases hp : pre (· == c) s < s.length
  · rw [splitC_hit hp, show cutC c s = (s.take (pre (· == c) s), s.drop (pre (· == c) s + 1), true) from if_pos hp]
    exact ⟨_, rfl⟩
  · rw [splitC_miss hp, show cutC c s = (s, [], false) from if_neg hp]
    exact ⟨_, rfl⟩
theorem canon_nobad {s : Bytes} (h : (didCanon s).2 = 0) : PU.bad ∉ units s := by
  intro hb
  unfold didCanon at h
  rw [if_pos hb] at h
  simp at h
theorem auth_dec {d : Did} (hm : d.method = webS) (h : (didParse (didText d)).2 = 0) : d.id.length ≤ 4096 ∧ ∀ y ∈ splitC 58 d.id, PU.bad ∉ units y ∧ y.length ≤ 4096 := by
  obtain ⟨m, i⟩ := d
  simp only at hm
  subst hm
  have ht : didText ⟨webS, i⟩ = didS ++ (webS ++ 58 :: i) := by simp [didText]
  unfold didParse at h
  split at h
  · simp at h
  rename_i h1
  have hp : didS.isPrefixOf (didText ⟨webS, i⟩) = true := by rw [ht]; exact List.isPrefixOf_iff_prefix.2 ⟨_, rfl⟩
  rw [if_neg (by rw [hp]; simp), ht, show (didS ++ (webS ++ 58 :: i)).drop 4 = webS ++ 58 :: i from rfl] at h
  have hc : cutC 58 (webS ++ 58 :: i) = (webS, i, true) := by
    rw [cutC_past (c := 58) (a := webS) (58 :: i) (by decide)]
    rfl
  unfold didRest at h
  rw [hc] at h
  simp only at h
  rw [if_neg (by simp), if_neg (by decide)] at h
  have h2 : (didCanon i).2 = 0 := by
    by_cases k : (didCanon i).2 = 0
    · exact k
    · unfold didEnd at h
      rw [if_pos k] at h
      exact h
  have hb := canon_nobad h2
  obtain ⟨x, l, e1, e2, e3⟩ := split_segs 58 _ i (Nat.le_refl _)
  have hu := (segs_units l x).1
  rw [← e2] at hu
  have hil : i.length ≤ 4096 := by
    rw [ht] at h1
    simp only [List.length_append, List.length_cons] at h1
    omega
  refine ⟨hil, fun y hy => ⟨fun k => hb (hu.1 ⟨y, by rw [← e1]; exact hy, k⟩), ?_⟩⟩
  have := splitC_len 58 i y hy
  omega
theorem auth_first {d : Did} (hm : d.method = webS) (h : (didParse (didText d)).2 = 0) : pctDecode (cutC 58 d.id).1 = (decV (cutC 58 d.id).1, 0) := by
  obtain ⟨h1, h2⟩ := auth_dec hm h
  obtain ⟨l, e⟩ := cut_head 58 d.id
  obtain ⟨h3, h4⟩ := h2 (cutC 58 d.id).1 (by rw [e]; exact List.mem_cons_self)
  rw [decode_seg (by omega), if_neg h3]
theorem pctDecode_len (s : Bytes) : (pctDecode s).1.length ≤ s.length := by
  unfold pctDecode
  split
  · simp
  · split
    · simp
    · exact decV_len s
theorem segUp_len (x : Bytes) : (segUp x).length ≤ 3 * x.length + 1 := by
  have h1 := pctEncode_len [] (pctDecode x).1
  have h2 := pctDecode_len x
  unfold segUp
  simp only [List.length_cons]
  omega
theorem segDown_len (x : Bytes) : (segDown x).length ≤ 3 * x.length + 1 := by
  have h1 := didEsc_len (pctDecode x).1
  have h2 := pctDecode_len x
  unfold segDown
  simp only [List.length_cons]
  omega
theorem flat_up : ∀ l : List Bytes, (l.flatMap segUp).length ≤ 3 * l.flatten.length + l.length
  | [] => by simp
  | x :: l => by
    have := segUp_len x
    have := flat_up l
    simp only [List.flatMap_cons, List.length_append, List.flatten_cons, List.length_cons]
    omega
theorem flat_down : ∀ l : List Bytes, (l.flatMap segDown).length ≤ 3 * l.flatten.length + l.length
  | [] => by simp
  | x :: l => by
    have := segDown_len x
    have := flat_down l
    simp only [List.flatMap_cons, List.length_append, List.flatten_cons, List.length_cons]
    omega
theorem split_flat (c : UInt8) (s : Bytes) : (splitC c s).flatten.length + (splitC c s).length = s.length + 1 := by
  obtain ⟨x, l, e1, e2, -⟩ := split_segs c _ s (Nat.le_refl _)
  rw [e1]
  conv => rhs; rw [e2]
  have : ∀ l : List Bytes, (l.flatMap (c :: ·)).length = l.flatten.length + l.length := by
    intro l
    induction l with
    | nil => rfl
    | cons y l ih => simp only [List.flatMap_cons, List.length_append, List.flatten_cons, List.length_cons, ih]; omega
  simp only [List.flatten_cons, List.length_append, List.length_cons, this]
  omega
theorem escDown (s : Bytes) : (pctEncode [] s).flatMap (repB 126 [37, 55, 69]) = didEsc s := by
  induction s with
  | nil => rfl
  | cons c s ih =>
    show (encB [] c ++ pctEncode [] s).flatMap _ = didB c ++ didEsc s
    rw [List.flatMap_append, ih]
    congr 1
    have := all256 (p := fun c => (encB [] c).flatMap (repB 126 [37, 55, 69]) == didB c) (by decide +kernel) c
    simpa using this
theorem split_all (c : UInt8) (s : Bytes) : Lib.splitK [c] 0 (Lib.count s [c]) s = splitC c s := splitK_one c _ s (Lib.count_one c s).symm
theorem didAuth_ok {d : Did} (h : (didAuth d).2 = 0) : hostPort (hostText (didAuth d).1.1 (didAuth d).1.2) = (((didAuth d).1.1, (didAuth d).1.2), 0) ∧ d.method = webS ∧ (didParse (didText d)).2 = 0 := by
  unfold didAuth at h ⊢
  by_cases h1 : d.method = webS
  · rw [if_neg (by simp [h1])] at h ⊢
    by_cases h2 : (didParse (didText d)).2 = 0
    · rw [if_neg (by simp [h2])] at h ⊢
      refine ⟨?_, h1, h2⟩
      generalize hX : hostPort (pctDecode (cutC 58 d.id).1).1 = X at h ⊢
      obtain ⟨⟨x, p⟩, e⟩ := X
      simp only at h ⊢
      subst h
      exact (hostPort_back hX).1
    · rw [if_pos h2] at h
      exact absurd h h2
  · rw [if_pos h1] at h
    simp at h
theorem valid_split {u : Url} (hv : urlValid u = true) : ∃ (T : List Bytes) (z : Bytes), splitC 47 u.path = (cutC 47 u.path).1 :: T ∧ T.getLast? = some z ∧ 0 < T.length ∧ u.path.length ≤ 4096 := by
  have hc := valid_can hv
  obtain ⟨r, hr⟩ := hc.slash
  have hl := (urlText_len u).1
  have hlen := hc.len
  obtain ⟨T, hT⟩ := cut_head 47 u.path
  have h0 : pre (· == 47) (47 :: r) = 0 := by simp [pre_cons]
  have e : splitC 47 (47 :: r) = [] :: splitC 47 r := by
    rw [splitC_hit (by rw [h0]; simp), h0]
    rfl
  have hT2 := hT
  rw [hr, e] at hT2
  have h2 := splitC_length 47 r
  have h3 : splitC 47 r = T := (List.cons.inj hT2).2
  have hT0 : T ≠ [] := by rintro rfl; rw [h3] at h2; simp at h2
  refine ⟨T, T.getLast hT0, hT, List.getLast?_eq_some_getLast hT0, List.length_pos_iff.2 hT0, by omega⟩
theorem fromUrl_at {u : Url} {c z : Bytes} {T : List Bytes} (hv : urlValid u = true) (hT : splitC 47 u.path = c :: T) (hz : T.getLast? = some z) :
    fromUrl u = if u.hasQuery = true then (Did.none, 6) else if u.hasFrag = true then (Did.none, 6) else if (z != lastS) = true then (Did.none, 6) else if T.length = 1 then (Did.none, 110) else fromSegs u T.dropLast := by
  unfold fromUrl
  rw [if_neg (by rw [hv]; simp), hT, List.tail_cons, hz]
  by_cases h1 : u.hasQuery = true
  · rw [if_pos (.inl h1), if_pos h1]
  rw [if_neg h1]
  by_cases h2 : u.hasFrag = true
  · rw [if_pos (.inr (.inl h2)), if_pos h2]
  rw [if_neg h2]
  by_cases h3 : z = lastS
  · have hn : ¬ (u.hasQuery = true ∨ u.hasFrag = true ∨ some z ≠ some lastS) := by simp [h1, h2, h3]
    have hm : ¬ (z != lastS) = true := by simp [h3]
    rw [if_neg hn, if_neg hm]
  · rw [if_pos (.inr (.inr (by simpa using h3))), if_pos (by simpa using h3)]
end Wf
/- A calculus of conditions: a strings.Builder is one thing of the state. -/
set_option linter.all false
namespace Vc
open Go Go.RowKit Wf
theorem FrW.mono {own own' : Nat → Prop} {w w' : World} (h : FrW own w w') (k : ∀ b, own b → own' b) : FrW own' w w' :=
  ⟨h.os, h.tape, h.output, h.size, fun b hb hn => h.block b hb (fun e => hn (k b e))⟩
def BldR (TB TU : TypeId) (l : List UInt8) : Rsc where
  holds t fp w := t.off = 0 ∧ ∃ (p : Value) (t2 : Bt) (f2 : Nat → Prop), (p = .pointer none ∨ p = .pointer (some ⟨t.blk, 0, none⟩)) ∧
    (∃ fz, Head w t.blk TB [p, oV t2 l.length] [] fz) ∧ Holds bt0 t2 f2 w (.own (l.map u8S) TU 1 l.length true) ∧ ¬ f2 t.blk ∧ ∀ k, fp k ↔ k = t.blk ∨ f2 k
  stays b fp w w' := by
    rintro ⟨h0, p, t2, f2, hp, ⟨fz, h1, h2⟩, h3, h4, h5⟩ hk
    exact ⟨h0, p, t2, f2, hp, ⟨fz, (hk _ ((h5 _).2 (.inl rfl))).trans h1, h2⟩, h3.stays (fun k hf => hk k ((h5 k).2 (.inr hf))), h4, h5⟩
theorem u8_conc (l : List UInt8) (β β' : Nat → Bt) : (l.map u8S).map (conc β) = (l.map u8S).map (conc β') := by
  simp [u8S, conc]
theorem holds_u8 {β β' : Nat → Bt} {t : Bt} {f : Nat → Prop} {w : World} {l : List UInt8} {TU : TypeId} {n : Nat} {m : Bool} (h : Holds β t f w (.own (l.map u8S) TU 1 n m)) : Holds β' t f w (.own (l.map u8S) TU 1 n m) := by
  simp only [Holds] at h ⊢
  rw [u8_conc l β' β]
  exact h
theorem res_agr {b1 b2 : Nat → Bt} {t t' : Bt} {fq fq' : Nat → Prop} {w w' : World} {r : Res} (h1 : Holds b1 t fq w r) (h2 : Holds b2 t fq w r) (h : Holds b1 t' fq' w' r) : Holds b2 t' fq' w' r := by
  cases r with
  | cells c T m =>
    obtain ⟨-, ⟨r1, f1, d1, rfl⟩, -⟩ := h1
    obtain ⟨-, ⟨r2, f2, d2, rfl⟩, -⟩ := h2
    have e := lies_agr (by simp) d1.lies d2.lies
    simp only [Holds] at h ⊢
    rw [← e]; exact h
  | own c e s n m =>
    rcases h1 with ⟨-, -, rfl, -⟩ | ⟨-, -, -, -, l1, -⟩
    · simpa [Holds] using h
    · rcases h2 with ⟨-, -, rfl, -⟩ | ⟨-, -, -, -, l2, -⟩
      · simpa [Holds] using h
      · have e := lies_agr (by simp) l1 l2
        simp only [Holds] at h ⊢
        rw [← e]; exact h
  | ext R => exact h
  | gone => exact h
variable {V : Cx} {f : FuncId} {args : List SV} {bs : List Res} {R : SV → List Res → Prop}
theorem sc_view {i : Nat} {r0 r1 : Res} (hi : bs[i]? = some r0) (hm : r1.mine = r0.mine) (hv : ∀ (β : Nat → Bt) (fp : Nat → Nat → Prop) (w : World), Holds β (β i) (fp i) w r0 → Holds β (β i) (fp i) w r1) (h : SC V f args (bs.set i r1) R) : SC V f args bs R := by
  refine ⟨h.1, fun β fp w hbx hG hE => ?_⟩
  have hil : i < bs.length := (List.getElem?_eq_some_iff.1 hi).1
  have old : ∀ {j r'}, (bs.set i r1)[j]? = some r' → ∃ r, bs[j]? = some r ∧ r.mine = r'.mine ∧ (j ≠ i ∧ r' = r ∨ j = i ∧ r' = r1) := fun {j r'} hj => by
    by_cases hji : j = i
    · subst hji
      rw [List.getElem?_set_self hil] at hj
      obtain rfl := Option.some.inj hj
      exact ⟨r0, hi, hm.symm, .inr ⟨rfl, rfl⟩⟩
    · rw [List.getElem?_set_ne (fun e => hji e.symm)] at hj
      exact ⟨r', hj, rfl, .inl ⟨hji, rfl⟩⟩
  refine (h.2 β fp w (fun β' hβ => ?_) (fun j r hj hjm k hk => ?_) hE).mono ?_
  · rw [List.length_set] at hβ
    have hb := hbx β' hβ
    refine ⟨fun j r' hj => ?_, fun j r' hj k hk => ?_, fun j l a b hj hl hne hmm => ?_⟩
    · obtain ⟨r, hr, -, ⟨-, rfl⟩ | ⟨rfl, rfl⟩⟩ := old hj
      · exact hb.holds j _ hr
      · exact hv β' fp w (hb.holds _ _ hi)
    · obtain ⟨r, hr, -⟩ := old hj
      exact hb.lt j r hr k hk
    · obtain ⟨r, hr, e, -⟩ := old hj
      obtain ⟨r', hr', e', -⟩ := old hl
      exact hb.sep j l r r' hr hr' hne (by rw [e, e']; exact hmm)
  · obtain ⟨r, hr, e, -⟩ := old hj
    exact hG j r hr (e.trans hjm) k hk
  · rintro e w' ⟨r, bs', β₂, fp₂, hR, hag, hlen, hall, hfr, hmine, hfoot⟩
    rw [List.length_set] at hag hlen
    refine ⟨r, bs', β₂, fp₂, hR, hag, hlen, hall, hfr.mono ?_, fun j r' hj hjm k hk => ?_, fun j r' hj k hk => ?_⟩
    · rintro k ⟨j, r', hj, hjm, hk⟩
      obtain ⟨r, hr, e, -⟩ := old hj
      exact ⟨j, r, hr, e.trans hjm, hk⟩
    · rcases hmine j r' hj hjm k hk with h1 | ⟨j2, r2, hj2, hm2, hk2⟩
      · exact .inl h1
      · obtain ⟨r, hr, e, -⟩ := old hj2
        exact .inr ⟨j2, r, hr, e.trans hm2, hk2⟩
    · rcases hfoot j r' hj k hk with h1 | ⟨j2, r2, hj2, hk2⟩
      · exact .inl h1
      · obtain ⟨r, hr, -⟩ := old hj2
        exact .inr ⟨j2, r, hr, hk2⟩
theorem sc_fresh {i TB TU : Nat} (hi : bs[i]? = some (.cells [.v (.pointer none), .nils] TB true)) (h : SC V f args (bs.set i (.ext (BldR TB TU []))) R) : SC V f args bs R := by
  refine sc_view (r1 := .ext (BldR TB TU [])) hi rfl (fun β fp w hh => ?_) h
  obtain ⟨h0, ⟨rest, fz, hd, rfl⟩, h3⟩ := hh
  refine ⟨h0, Value.pointer none, ⟨0, 0, 0⟩, fun _ => False, .inl rfl, ⟨fz, ?_⟩, holds_nil, not_false, fun k => (h3 k).trans ⟨.inl, fun h => h.elim id False.elim⟩⟩
  simpa [conc, oV] using hd
theorem sc_open {i TB TU : Nat} {l : List UInt8} (hi : bs[i]? = some (.ext (BldR TB TU l))) {R' : SV → List Res → Prop}
    (h : ∀ x, (x = .v (.pointer none) ∨ x = .p i 0) → SC V f args (bs.set i (.cells [x, .o bs.length l.length] TB true) ++ [.own (l.map u8S) TU 1 l.length true]) R')
    (hR : ∀ r bs', R' r bs' → ∃ x j l', flat r = true ∧ (x = .v (.pointer none) ∨ x = .p i 0) ∧ R r (bs.set i (.ext (BldR TB TU l'))) ∧ bs'[i]? = some (.cells [x, .o j l'.length] TB true) ∧ bs'[j]? = some (.own (l'.map u8S) TU 1 l'.length true) ∧
      bs.length ≤ j ∧ ∀ k, k < bs.length → k ≠ i → bs'[k]? = bs[k]?)
    (hargs : within.withinL bs.length args = true) : SC V f args bs R := by
  have hil : i < bs.length := (List.getElem?_eq_some_iff.1 hi).1
  refine ⟨(h _ (.inl rfl)).1, fun β fp w hbx hG hE => ?_⟩
  have hb0 := hbx β (Agr.refl _ _)
  obtain ⟨h0, p, t2, f2, hp, ⟨fz, hd⟩, hrow, hnb, hfp⟩ := hb0.holds i _ hi
  obtain ⟨x, hx, hxc⟩ : ∃ x : SV, (x = .v (.pointer none) ∨ x = .p i 0) ∧ ∀ β', Agr bs.length β β' → conc β' x = p := by
    rcases hp with rfl | rfl
    · exact ⟨_, .inl rfl, fun _ _ => rfl⟩
    · exact ⟨_, .inr rfl, fun β' hβ => by simp only [conc]; rw [← hβ i hil, h0]⟩
  let β₁ := upd β bs.length t2
  let fp₁ : Nat → Nat → Prop := fun j k => if j = i then k = (β i).blk else if j = bs.length then f2 k else fp j k
  have agr1 : ∀ {β'}, Agr (bs.length + 1) β₁ β' → Agr bs.length β β' := fun {β'} hβ j hj => by
    rw [← hβ j (by omega)]; simp only [β₁, upd]; rw [if_neg (by omega)]
  have at1 : ∀ {β'}, Agr (bs.length + 1) β₁ β' → β' bs.length = t2 := fun {β'} hβ => by
    rw [← hβ bs.length (by omega)]; simp [β₁, upd]
  have old : ∀ {j r'}, (bs.set i (.cells [x, .o bs.length l.length] TB true) ++ [.own (l.map u8S) TU 1 l.length true])[j]? = some r' →
      (j = i ∧ r' = .cells [x, .o bs.length l.length] TB true) ∨ (j = bs.length ∧ r' = .own (l.map u8S) TU 1 l.length true) ∨ (j < bs.length ∧ j ≠ i ∧ bs[j]? = some r') := fun {j r'} hj => by
    have hjl : j < bs.length + 1 := by
      have := (List.getElem?_eq_some_iff.1 hj).1
      simpa using this
    by_cases hjm : j = bs.length
    · subst hjm
      rw [List.getElem?_append_right (by simp)] at hj
      simp at hj
      exact .inr (.inl ⟨rfl, hj.symm⟩)
    · rw [List.getElem?_append_left (by simp; omega)] at hj
      by_cases hji : j = i
      · subst hji
        rw [List.getElem?_set_self hil] at hj
        exact .inl ⟨rfl, (Option.some.inj hj).symm⟩
      · rw [List.getElem?_set_ne (fun e => hji e.symm)] at hj
        exact .inr (.inr ⟨by omega, hji, hj⟩)
  have in1 : ∀ {j r'}, (bs.set i (.cells [x, .o bs.length l.length] TB true) ++ [.own (l.map u8S) TU 1 l.length true])[j]? = some r' → r'.mine = true → ∀ k, fp₁ j k → ∃ j2 r2, bs[j2]? = some r2 ∧ r2.mine = true ∧ fp j2 k := fun {j r'} hj hm k hk => by
    rcases old hj with ⟨rfl, rfl⟩ | ⟨rfl, rfl⟩ | ⟨hj1, hj2, hj3⟩
    · refine ⟨j, _, hi, rfl, (hfp k).2 (.inl ?_)⟩
      simpa [fp₁] using hk
    · refine ⟨i, _, hi, rfl, (hfp k).2 (.inr ?_)⟩
      simpa [fp₁, Nat.ne_of_gt hil] using hk
    · exact ⟨j, r', hj3, hm, by simpa [fp₁, hj2, Nat.ne_of_lt hj1] using hk⟩
  have inF : ∀ {j r'}, (bs.set i (.cells [x, .o bs.length l.length] TB true) ++ [.own (l.map u8S) TU 1 l.length true])[j]? = some r' → ∀ k, fp₁ j k → ∃ j2 r2, bs[j2]? = some r2 ∧ fp j2 k := fun {j r'} hj k hk => by
    rcases old hj with ⟨rfl, rfl⟩ | ⟨rfl, rfl⟩ | ⟨hj1, hj2, hj3⟩
    · refine ⟨j, _, hi, (hfp k).2 (.inl ?_)⟩
      simpa [fp₁] using hk
    · refine ⟨i, _, hi, (hfp k).2 (.inr ?_)⟩
      simpa [fp₁, Nat.ne_of_gt hil] using hk
    · exact ⟨j, r', hj3, by simpa [fp₁, hj2, Nat.ne_of_lt hj1] using hk⟩
  have ea : concL β args = concL β₁ args := concL_within bs.length args hargs β β₁ (fun j hj => by simp only [β₁, upd]; rw [if_neg (by omega)])
  rw [ea]
  refine ((h x hx).2 β₁ fp₁ w (fun β' hβ => ?_) (fun j r hj hm k hk => ?_) hE).mono ?_
  · have hβq : Agr (bs.length + 1) β₁ β' := by simpa using hβ
    clear hβ
    have hb := hbx β' (agr1 hβq)
    have hbi : β' i = β i := (agr1 hβq i hil).symm
    refine ⟨fun j r' hj => ?_, fun j r' hj k hk => ?_, fun j q a b hj hq hne hmm k hk hk2 => ?_⟩
    · rcases old hj with ⟨rfl, rfl⟩ | ⟨rfl, rfl⟩ | ⟨hj1, hj2, hj3⟩
      · refine ⟨by rw [hbi]; exact h0, ⟨[], fz, ?_, rfl⟩, fun k => by simp [fp₁, hbi]⟩
        rw [hbi]
        simpa [hxc β' (agr1 hβq), conc, at1 hβq] using hd
      · rw [at1 hβq]
        have e : fp₁ bs.length = f2 := by funext k; simp [fp₁, Nat.ne_of_gt hil]
        rw [e]
        exact holds_u8 hrow
      · have e : fp₁ j = fp j := by funext k; simp [fp₁, hj2, Nat.ne_of_lt hj1]
        rw [e]
        exact hb.holds j _ hj3
    · rcases old hj with ⟨rfl, rfl⟩ | ⟨rfl, rfl⟩ | ⟨hj1, hj2, hj3⟩
      · exact hb.lt j _ hi k ((hfp k).2 (.inl (by simpa [fp₁] using hk)))
      · exact hb.lt i _ hi k ((hfp k).2 (.inr (by simpa [fp₁, Nat.ne_of_gt hil] using hk)))
      · exact hb.lt j _ hj3 k (by simpa [fp₁, hj2, Nat.ne_of_lt hj1] using hk)
    · rcases old hj with ⟨rfl, rfl⟩ | ⟨rfl, rfl⟩ | ⟨hj1, hj2, hj3⟩ <;> rcases old hq with ⟨rfl, rfl⟩ | ⟨rfl, rfl⟩ | ⟨hq1, hq2, hq3⟩
      · exact hne rfl
      · have e1 : k = (β j).blk := by simpa [fp₁] using hk
        have e2 : f2 k := by simpa [fp₁, Nat.ne_of_gt hil] using hk2
        exact hnb (e1 ▸ e2)
      · have e1 : k = (β j).blk := by simpa [fp₁] using hk
        have e2 : fp q k := by simpa [fp₁, hq2, Nat.ne_of_lt hq1] using hk2
        exact hb.sep j q _ _ hi hq3 hne (.inl rfl) k ((hfp k).2 (.inl e1)) e2
      · have e2 : k = (β q).blk := by simpa [fp₁] using hk2
        have e1 : f2 k := by simpa [fp₁, Nat.ne_of_gt hil] using hk
        exact hnb (e2 ▸ e1)
      · exact hne rfl
      · have e1 : f2 k := by simpa [fp₁, Nat.ne_of_gt hil] using hk
        have e2 : fp q k := by simpa [fp₁, hq2, Nat.ne_of_lt hq1] using hk2
        exact hb.sep i q _ _ hi hq3 (fun e => hq2 e.symm) (.inl rfl) k ((hfp k).2 (.inr e1)) e2
      · have e1 : k = (β q).blk := by simpa [fp₁] using hk2
        have e2 : fp j k := by simpa [fp₁, hj2, Nat.ne_of_lt hj1] using hk
        exact hb.sep q j _ _ hi hj3 (fun e => hne e.symm) (.inl rfl) k ((hfp k).2 (.inl e1)) e2
      · have e1 : f2 k := by simpa [fp₁, Nat.ne_of_gt hil] using hk2
        have e2 : fp j k := by simpa [fp₁, hj2, Nat.ne_of_lt hj1] using hk
        exact hb.sep i j _ _ hi hj3 (fun e => hj2 e.symm) (.inl rfl) k ((hfp k).2 (.inr e1)) e2
      · exact hb.sep j q _ _ hj3 hq3 hne hmm k (by simpa [fp₁, hj2, Nat.ne_of_lt hj1] using hk) (by simpa [fp₁, hq2, Nat.ne_of_lt hq1] using hk2)
  · obtain ⟨j2, r2, h1, h2, h3⟩ := in1 hj hm k hk
    exact hG j2 r2 h1 h2 k h3
  · rintro e w' ⟨r, bs', β₂, fp₂, hR', hag, hlen, hall, hfr, hmine, hfoot⟩
    have hag : Agr (bs.length + 1) β₁ β₂ := by simpa using hag
    have hlen : bs.length + 1 ≤ bs'.length := by simpa using hlen
    obtain ⟨x', j, l', hfl, hx', hRr, hbi, hbj, hjm, hoth⟩ := hR r bs' hR'
    have hjl : j < bs'.length := (List.getElem?_eq_some_iff.1 hbj).1
    have hag2 : Agr bs.length β β₂ := agr1 hag
    let fp₃ : Nat → Nat → Prop := fun q k => if q = i then fp₂ i k ∨ fp₂ j k else fp₂ q k
    have lift : ∀ {β'}, Agr bs.length β₂ β' → ∃ β'', Agr bs'.length β₂ β'' ∧ Agr bs.length β'' β' := fun {β'} hβ =>
      ⟨β₂, Agr.refl _ _, hβ⟩
    have old2 : ∀ {q r'}, (bs.set i (.ext (BldR TB TU l')))[q]? = some r' → (q = i ∧ r' = .ext (BldR TB TU l')) ∨ (q < bs.length ∧ q ≠ i ∧ bs[q]? = some r' ∧ bs'[q]? = some r') := fun {q r'} hq => by
      by_cases hqi : q = i
      · subst hqi
        rw [List.getElem?_set_self hil] at hq
        exact .inl ⟨rfl, (Option.some.inj hq).symm⟩
      · rw [List.getElem?_set_ne (fun e => hqi e.symm)] at hq
        have hql : q < bs.length := (List.getElem?_eq_some_iff.1 hq).1
        exact .inr ⟨hql, hqi, hq, (hoth q hql hqi).trans hq⟩
    refine ⟨r, bs.set i (.ext (BldR TB TU l')), β₂, fp₃, hRr, hag2, by simp, fun β' hβ => ?_, hfr.mono ?_, fun q r' hq hqm k hk => ?_, fun q r' hq k hk => ?_⟩
    · rw [List.length_set] at hβ
      -- the things of the caller are read at any β' that agrees on them
      let β'' : Nat → Bt := fun q => if q < bs.length then β' q else β₂ q
      have hβ2 : Agr bs'.length β₂ β'' := fun q hq => by
        show _ = if _ then _ else _
        split
        · rename_i hlt; exact hβ q hlt
        · rfl
      obtain ⟨he, hb⟩ := hall β'' hβ2
      refine ⟨by rw [he, conc_flat r hfl β'' β'], ?_⟩
      have hbi' : β'' i = β₂ i := (hβ2 i (by omega)).symm
      have hbi2 : β' i = β₂ i := (hβ i hil).symm
      refine ⟨fun q r' hq => ?_, fun q r' hq k hk => ?_, fun q s a b hq hs hne hmm k hk hk2 => ?_⟩
      · rcases old2 hq with ⟨rfl, rfl⟩ | ⟨h1, h2, h3, h4⟩
        · obtain ⟨k0, ⟨rest, fz', hd', rfl⟩, k3⟩ := hb.holds _ _ hbi
          have hrow' := hb.holds _ _ hbj
          refine ⟨by rw [hbi2, ← hbi']; exact k0, conc β'' x', β'' j, fp₂ j, ?_, ⟨fz', ?_⟩, holds_u8 hrow', ?_, fun k => ?_⟩
          · rcases hx' with rfl | rfl
            · exact .inl rfl
            · right
              simp only [conc]
              rw [k0, hbi', hbi2]
          · rw [hbi2, ← hbi']
            simpa [conc] using hd'
          · intro hc
            have : fp₂ q (β'' q).blk := (k3 _).2 rfl
            rw [hbi2, ← hbi'] at hc
            exact hb.sep q j _ _ hbi hbj (by omega) (.inl rfl) _ this hc
          · show (if _ then _ else _) ↔ _
            rw [if_pos rfl, k3 k, hbi', hbi2]
        · have e : fp₃ q = fp₂ q := by funext k; show (if _ then _ else _) = _; rw [if_neg h2]
          rw [e]
          have e2 : β' q = β'' q := by show _ = if _ then _ else _; rw [if_pos h1]
          have := hb.holds _ _ h4
          rw [e2]
          -- what it holds of cells looks at β'' alone through the things of the caller
          have hA : Agr bs.length β β' := fun q hq => (hag2 q hq).trans (hβ q hq)
          have hA2 : Agr bs.length β β'' := fun q hq => (hag2 q hq).trans (hβ2 q (by omega))
          have u1 := (hbx β'' hA2).holds q _ h3
          have u2 := (hbx β' hA).holds q _ h3
          rw [e2] at u2
          exact res_agr u1 u2 this
      · rcases old2 hq with ⟨rfl, rfl⟩ | ⟨h1, h2, h3, h4⟩
        · have hk : fp₂ q k ∨ fp₂ j k := by simpa [fp₃] using hk
          rcases hk with hk | hk
          · exact hb.lt _ _ hbi k hk
          · exact hb.lt _ _ hbj k hk
        · exact hb.lt _ _ h4 k (by simpa [fp₃, h2] using hk)
      · rcases old2 hq with ⟨rfl, rfl⟩ | ⟨h1, h2, h3, h4⟩ <;> rcases old2 hs with ⟨rfl, rfl⟩ | ⟨g1, g2, g3, g4⟩
        · exact hne rfl
        · have hk2 : fp₂ s k := by simpa [fp₃, g2] using hk2
          have hk : fp₂ q k ∨ fp₂ j k := by simpa [fp₃] using hk
          rcases hk with hk | hk
          · exact hb.sep _ _ _ _ hbi g4 hne (.inl rfl) k hk hk2
          · exact hb.sep _ _ _ _ hbj g4 (by omega) (.inl rfl) k hk hk2
        · have hk : fp₂ q k := by simpa [fp₃, h2] using hk
          have hk2 : fp₂ s k ∨ fp₂ j k := by simpa [fp₃] using hk2
          rcases hk2 with hk2 | hk2
          · exact hb.sep _ _ _ _ hbi h4 (fun e => hne e.symm) (.inl rfl) k hk2 hk
          · exact hb.sep _ _ _ _ hbj h4 (by omega) (.inl rfl) k hk2 hk
        · exact hb.sep _ _ _ _ h4 g4 hne hmm k (by simpa [fp₃, h2] using hk) (by simpa [fp₃, g2] using hk2)
    · rintro k ⟨j1, r1, hj1, hm1, hk1⟩
      exact in1 hj1 hm1 k hk1
    · rcases old2 hq with ⟨rfl, rfl⟩ | ⟨h1, h2, h3, h4⟩
      · have hk : fp₂ q k ∨ fp₂ j k := by simpa [fp₃] using hk
        rcases hk with hk | hk
        · rcases hmine _ _ hbi rfl k hk with h1 | ⟨j1, r1, hj1, hm1, hk1⟩
          · exact .inl h1
          · exact .inr (in1 hj1 hm1 k hk1)
        · rcases hmine _ _ hbj rfl k hk with h1 | ⟨j1, r1, hj1, hm1, hk1⟩
          · exact .inl h1
          · exact .inr (in1 hj1 hm1 k hk1)
      · rcases hmine _ _ h4 hqm k (by simpa [fp₃, h2] using hk) with h1 | ⟨j1, r1, hj1, hm1, hk1⟩
        · exact .inl h1
        · exact .inr (in1 hj1 hm1 k hk1)
    · rcases old2 hq with ⟨rfl, rfl⟩ | ⟨h1, h2, h3, h4⟩
      · have hk : fp₂ q k ∨ fp₂ j k := by simpa [fp₃] using hk
        rcases hk with hk | hk
        · rcases hfoot _ _ hbi k hk with h1 | ⟨j1, r1, hj1, hk1⟩
          · exact .inl h1
          · exact .inr (inF hj1 k hk1)
        · rcases hfoot _ _ hbj k hk with h1 | ⟨j1, r1, hj1, hk1⟩
          · exact .inl h1
          · exact .inr (inF hj1 k hk1)
      · rcases hfoot _ _ h4 k (by simpa [fp₃, h2] using hk) with h1 | ⟨j1, r1, hj1, hk1⟩
        · exact .inl h1
        · exact .inr (inF hj1 k hk1)
theorem sc_direct {i : Nat} {r0 r1 : Res} {r : SV} (hi : bs[i]? = some r0) (hm : r0.mine = true) (hent : Enters V f) (hr : flat r = true)
    (h : ∀ (β : Nat → Bt) (fp : Nat → Nat → Prop) (w : World), V.E w → (∀ β', Agr bs.length β β' → Holds β' (β' i) (fp i) w r0) → Calls V.P f (concL β args).toArray w fun e w' => e = .returned (conc bt0 r) ∧ FrW (fp i) w w' ∧ ∃ f1 : Nat → Prop, (∀ k, f1 k → fp i k) ∧ ∀ β', Agr bs.length β β' → Holds β' (β' i) f1 w' r1) :
    SC V f args bs (fun r' bs' => r' = r ∧ bs' = bs.set i r1) := by
  have hil : i < bs.length := (List.getElem?_eq_some_iff.1 hi).1
  refine ⟨hent, fun β fp w hbx hG hE => ?_⟩
  refine (h β fp w hE (fun β' hβ => (hbx β' hβ).holds i _ hi)).mono ?_
  rintro e w' ⟨rfl, hfr, f1, hf1, hh⟩
  have old : ∀ {j r'}, (bs.set i r1)[j]? = some r' → (j = i ∧ r' = r1) ∨ (j ≠ i ∧ bs[j]? = some r') := fun {j r'} hj => by
    by_cases hji : j = i
    · subst hji
      rw [List.getElem?_set_self hil] at hj
      exact .inl ⟨rfl, (Option.some.inj hj).symm⟩
    · rw [List.getElem?_set_ne (fun e => hji e.symm)] at hj
      exact .inr ⟨hji, hj⟩
  let fp₂ : Nat → Nat → Prop := fun j k => if j = i then f1 k else fp j k
  refine ⟨r, bs.set i r1, β, fp₂, ⟨rfl, rfl⟩, Agr.refl _ _, by simp, fun β' hβ => ⟨by rw [conc_flat r hr bt0 β'], ?_⟩, hfr.mono (fun k hk => ⟨i, _, hi, hm, hk⟩), fun j r' hj hjm k hk => ?_, fun j r' hj k hk => ?_⟩
  · rw [List.length_set] at hβ
    have hb := hbx β' hβ
    refine ⟨fun j r' hj => ?_, fun j r' hj k hk => ?_, fun j l a b hj hl hne hmm k hk hk2 => ?_⟩
    · rcases old hj with ⟨rfl, rfl⟩ | ⟨h1, h2⟩
      · have e : fp₂ j = f1 := by funext k; simp [fp₂]
        rw [e]; exact hh β' hβ
      · have e : fp₂ j = fp j := by funext k; simp [fp₂, h1]
        rw [e]
        exact (hb.holds j _ h2).stays (fun k hk => hfr.block k (hb.lt j _ h2 k hk) (fun hki => hb.sep i j _ _ hi h2 (fun e => h1 e.symm) (.inl hm) k hki hk))
    · rcases old hj with ⟨rfl, rfl⟩ | ⟨h1, h2⟩
      · exact Nat.lt_of_lt_of_le (hb.lt _ _ hi k (hf1 k (by simpa [fp₂] using hk))) hfr.size
      · exact Nat.lt_of_lt_of_le (hb.lt j _ h2 k (by simpa [fp₂, h1] using hk)) hfr.size
    · rcases old hj with ⟨rfl, rfl⟩ | ⟨h1, h2⟩ <;> rcases old hl with ⟨rfl, rfl⟩ | ⟨g1, g2⟩
      · exact hne rfl
      · exact hb.sep _ _ _ _ hi g2 hne (.inl hm) k (hf1 k (by simpa [fp₂] using hk)) (by simpa [fp₂, g1] using hk2)
      · exact hb.sep _ _ _ _ hi h2 (fun e => hne e.symm) (.inl hm) k (hf1 k (by simpa [fp₂] using hk2)) (by simpa [fp₂, h1] using hk)
      · exact hb.sep _ _ _ _ h2 g2 hne hmm k (by simpa [fp₂, h1] using hk) (by simpa [fp₂, g1] using hk2)
  · rcases old hj with ⟨rfl, rfl⟩ | ⟨h1, h2⟩
    · exact .inr ⟨_, _, hi, hm, hf1 k (by simpa [fp₂] using hk)⟩
    · exact .inr ⟨j, r', h2, hjm, by simpa [fp₂, h1] using hk⟩
  · rcases old hj with ⟨rfl, rfl⟩ | ⟨h1, h2⟩
    · exact .inr ⟨_, _, hi, hf1 k (by simpa [fp₂] using hk)⟩
    · exact .inr ⟨j, r', h2, by simpa [fp₂, h1] using hk⟩
theorem SC.mono {R R' : SV → List Res → Prop} (h : SC V f args bs R) (k : ∀ r bs', R r bs' → R' r bs') : SC V f args bs R' := by
  refine ⟨h.1, fun β fp w hbx hG hE => (h.2 β fp w hbx hG hE).mono ?_⟩
  rintro e w' ⟨r, bs', β₂, fp₂, hR, h2⟩
  exact ⟨r, bs', β₂, fp₂, k _ _ hR, h2⟩
/-! slices that grow -/
theorem at_new (b : List Res) (X : Res) : (b ++ [X])[b.length]? = some X := by simp
theorem at_old {b : List Res} {j : Nat} {r : Res} (h : b[j]? = some r) (X : List Res) : (b ++ X)[j]? = some r := by
  rw [List.getElem?_append_left ((List.getElem?_eq_some_iff.1 h).1)]; exact h
def Sl (e s L : Nat) (x : SV) (b : List Res) (c : List SV) (n : Nat) : Prop := (x = .nils ∧ c = [] ∧ n = 0) ∨ ∃ j, x = .o j n ∧ L ≤ j ∧ b[j]? = some (.own c e s n true)
def Kp (bs b : List Res) : Prop := bs.length ≤ b.length ∧ ∀ k, k < bs.length → b[k]? = bs[k]?
theorem Kp.refl (bs : List Res) : Kp bs bs := ⟨Nat.le_refl _, fun _ _ => rfl⟩
theorem Kp.trans {a b c : List Res} (h : Kp a b) (k : Kp b c) : Kp a c := ⟨Nat.le_trans h.1 k.1, fun i hi => (k.2 i (Nat.lt_of_lt_of_le hi h.1)).trans (h.2 i hi)⟩
theorem Kp.app {bs b : List Res} (h : Kp bs b) (X : List Res) : Kp bs (b ++ X) := ⟨by rw [List.length_append]; have := h.1; omega, fun k hk => by rw [List.getElem?_append_left (by have := h.1; omega)]; exact h.2 k hk⟩
theorem Kp.set {bs b : List Res} (h : Kp bs b) {j : Nat} (hj : bs.length ≤ j) (X : Res) : Kp bs (b.set j X) := ⟨by rw [List.length_set]; exact h.1, fun k hk => by rw [List.getElem?_set_ne (by omega)]; exact h.2 k hk⟩
theorem Kp.at {bs b : List Res} (h : Kp bs b) {j : Nat} {r : Res} (hj : bs[j]? = some r) : b[j]? = some r := (h.2 j ((List.getElem?_eq_some_iff.1 hj).1)).trans hj
theorem Sl.app {e s L : Nat} {x : SV} {b : List Res} {c : List SV} {n : Nat} (h : Sl e s L x b c n) (X : List Res) : Sl e s L x (b ++ X) c n := by
  rcases h with h | ⟨j, h1, h2, h3⟩
  · exact .inl h
  · exact .inr ⟨j, h1, h2, at_old h3 X⟩
theorem set_new {α : Type} (b : List α) (X Y : α) : (b ++ [X]).set b.length Y = b ++ [Y] := by simp
theorem set_prev {α : Type} (b : List α) (X Y Z : α) : (b ++ [X] ++ [Y]).set b.length Z = b ++ [Z] ++ [Y] := by simp
theorem set_prev2 {α : Type} (b : List α) (X Y Z W : α) : (b ++ [X] ++ [Y] ++ [W]).set b.length Z = b ++ [Z] ++ [Y] ++ [W] := by simp
theorem at_prev {α : Type} (b : List α) (X Y : α) : (b ++ [X] ++ [Y])[b.length]? = some X := by simp
theorem at_prev2 {α : Type} (b : List α) (X Y Z : α) : (b ++ [X] ++ [Y] ++ [Z])[b.length]? = some X := by simp
theorem at_prev3 {α : Type} (b : List α) (X Y Z W : α) : (b ++ [X] ++ [Y] ++ [Z] ++ [W])[b.length]? = some X := by simp
theorem at_prev4 {α : Type} (b : List α) (X Y Z W U : α) : (b ++ [X] ++ [Y] ++ [Z] ++ [W] ++ [U])[b.length]? = some X := by simp
def lawB := And.intro (And.intro (@at_new) (And.intro (@at_prev) (@at_prev2))) (And.intro (And.intro (@at_prev3) (@at_prev4)) (And.intro (@set_new) (And.intro (@set_prev) (@set_prev2))))
end Vc
/- A library call that makes a row, as a contract of the calculus. -/
set_option linter.all false
namespace Go.Proofs.YtcndmooeglfilaaGreatDoor
open Go Vc Go.RowKit
theorem heap_new0 (w : World) (o : Obj) : (w.alloc o).heap[w.heap.size]? = some o := by
  show (w.heap.push o)[w.heap.size]? = some o
  simp
theorem heap_size0 (w : World) (o : Obj) : (w.alloc o).heap.size = w.heap.size + 1 := by
  show (w.heap.push o).size = _
  simp
theorem sc_row {V : Cx} {f : FuncId} {args : List SV} {bs : List Res} {c : List SV} {T : TypeId} (hent : Vc.Enters V f) (hfa : flat.flatL args = true) (hfc : flat.flatL c = true) (hn : c.length ≤ maxLen)
    (h : ∀ w, V.E w → Calls V.P f (concL bt0 args).toArray w fun e w' => e = .returned (.slice (some ⟨w.heap.size, 0, none⟩) c.length c.length) ∧ w' = w.alloc (.cells (concL bt0 c).toArray T)) :
    SC V f args bs (fun r b => r = .o bs.length c.length ∧ b = bs ++ [.own c T 1 c.length true]) := by
  refine ⟨hent, fun β fp w hbx hG hE => ?_⟩
  rw [concL_flat args hfa β bt0]
  refine (h w hE).mono ?_
  rintro e w' ⟨rfl, rfl⟩
  have hb : Below w.heap.size w (w.alloc (.cells (concL bt0 c).toArray T)) := Below.alloc (Below.refl _ _) (Nat.le_refl _) _
  refine ⟨.o bs.length c.length, bs ++ [.own c T 1 c.length true], fun i => if i < bs.length then β i else ⟨w.heap.size, 0, c.length + 1⟩,
    fun i k => if i < bs.length then fp i k else (i = bs.length ∧ k = w.heap.size), ⟨rfl, rfl⟩, fun i hi => by simp [hi], by simp, fun β' hβ => ?_, FrW.of_below hb, ?_⟩
  · have hAgr : Agr bs.length β β' := fun i hi => by
      have := hβ i (by rw [List.length_append]; omega)
      simpa [hi] using this
    have hn1 : β' bs.length = ⟨w.heap.size, 0, c.length + 1⟩ := by
      have := hβ bs.length (by simp)
      simpa using this.symm
    have hbw := hbx β' hAgr
    refine ⟨?_, ?_, ?_, ?_⟩
    · simp [conc, hn1, oV]
    · intro i r hi
      rcases Nat.lt_or_ge i bs.length with hlt | hge
      · rw [List.getElem?_append_left hlt] at hi
        have := (hbw.holds i r hi).stays (w' := w.alloc (.cells (concL bt0 c).toArray T)) (fun k hk => hb.block k (hbw.lt i r hi k hk))
        simpa [hlt] using this
      · rw [List.getElem?_append_right hge] at hi
        obtain rfl : i = bs.length := by
          rcases Nat.eq_or_lt_of_le hge with e | e
          · exact e.symm
          · rw [List.getElem?_eq_none (by simp; omega)] at hi; cases hi
        simp only [Nat.sub_self, List.getElem?_cons_zero, Option.some.injEq] at hi
        subst hi
        right
        have hc : (concL bt0 c) = c.map (conc β') := by rw [← concL_map, concL_flat c hfc bt0 β']
        have hhd : Head (w.alloc (.cells (concL bt0 c).toArray T)) w.heap.size T (c.map (conc β')) [] (0, 0) := ⟨by rw [List.append_nil, ← hc]; exact heap_new0 _ _, .inr (Nat.le_refl _)⟩
        rw [hn1]
        exact ⟨by simp, by simp, by simpa using hn, by simp, hhd.lies, fun _ => ⟨rfl, [], (0, 0), hhd, .inr (Nat.le_refl _), by simp⟩, fun k => by simp⟩
    · intro i r hi k hk
      rcases Nat.lt_or_ge i bs.length with hlt | hge
      · rw [List.getElem?_append_left hlt] at hi
        simp only [hlt, if_true] at hk
        exact Nat.lt_of_lt_of_le (hbw.lt i r hi k hk) hb.size
      · simp only [show ¬ i < bs.length by omega, if_false] at hk
        rw [hk.2, heap_size0]
        omega
    · intro i j r r' hi hj hij hm k hk hk'
      rcases Nat.lt_or_ge i bs.length with hlt | hge
      · rw [List.getElem?_append_left hlt] at hi
        simp only [hlt, if_true] at hk
        rcases Nat.lt_or_ge j bs.length with hjt | hjg
        · rw [List.getElem?_append_left hjt] at hj
          simp only [hjt, if_true] at hk'
          exact hbw.sep i j r r' hi hj hij hm k hk hk'
        · simp only [show ¬ j < bs.length by omega, if_false] at hk'
          have := hbw.lt i r hi k hk
          omega
      · simp only [show ¬ i < bs.length by omega, if_false] at hk
        rcases Nat.lt_or_ge j bs.length with hjt | hjg
        · rw [List.getElem?_append_left hjt] at hj
          simp only [hjt, if_true] at hk'
          have := hbw.lt j r' hj k hk'
          omega
        · simp only [show ¬ j < bs.length by omega, if_false] at hk'
          omega
  · refine ⟨fun i r' hi hm k hk => ?_, fun i r' hi k hk => ?_⟩
    · rcases Nat.lt_or_ge i bs.length with hlt | hge
      · rw [List.getElem?_append_left hlt] at hi
        simp only [hlt, if_true] at hk
        exact .inr ⟨i, r', hi, hm, hk⟩
      · simp only [show ¬ i < bs.length by omega, if_false] at hk
        exact .inl (by omega)
    · rcases Nat.lt_or_ge i bs.length with hlt | hge
      · rw [List.getElem?_append_left hlt] at hi
        simp only [hlt, if_true] at hk
        exact .inr ⟨i, r', hi, hk⟩
      · simp only [show ¬ i < bs.length by omega, if_false] at hk
        exact .inl (by omega)
end Go.Proofs.YtcndmooeglfilaaGreatDoor
/- strings.IndexRune at a rune that is no ASCII, in an ASCII string; strings.IndexAny at an ASCII set. -/
set_option linter.all false
namespace Go.Proofs.YtcndmooeglfilaaGreatDoor
open Go.RowKit Wf
attribute [local go_sem] ex_list app_list get_list

theorem encode_high (r : Int) (h1 : 128 ≤ r) (h4 : Lib.validRune r = true) : ∃ el : Bytes, Utf8.encode r = ⟨List.toArray el⟩ ∧ 2 ≤ el.length ∧ el.length ≤ 4 ∧ ∀ h : el.length - 1 < el.length, 128 ≤ el[el.length - 1].toNat := by
  have hv : Utf8.valid r = true := by
    unfold Lib.validRune at h4
    have := of_decide_eq_true h4
    unfold Utf8.valid
    simp
    omega
  obtain ⟨n, rfl⟩ := Int.eq_ofNat_of_zero_le (show 0 ≤ r by omega)
  have hn : 128 ≤ n := by omega
  have key : ∀ m : Nat, 128 ≤ (UInt8.ofNat (0x80 + m % 64)).toNat := by
    intro m
    rw [UInt8.toNat_ofNat']
    omega
  unfold Utf8.encode
  rw [if_pos hv]
  simp only [Int.toNat_natCast]
  rw [if_neg (show ¬ n < 128 by omega)]
  split
  · exact ⟨_, rfl, by simp, by simp, fun _ => key _⟩
  · split
    · exact ⟨_, rfl, by simp, by simp, fun _ => key _⟩
    · exact ⟨_, rfl, by simp, by simp, fun _ => key _⟩

theorem indexByte_no (l : Bytes) (c : UInt8) (h : ∀ b ∈ l, b ≠ c) : Lib.indexByte l c = -1 := by
  induction l with
  | nil => rfl
  | cons b l ih =>
    have h1 := h b (by simp)
    have h2 := ih fun x hx => h x (by simp [hx])
    simp [Lib.indexByte, h1, h2]

set_option maxRecDepth 100000 in
set_option maxHeartbeats 400000 in
theorem indexRune_err (l : Bytes) (w : World) (ha : ∀ i (h : i < l.length), l[i].toNat < 128) (hl : l.length ≤ 1000000) :
    Calls Tryz.prog 181 #[(Value.string ⟨List.toArray (l)⟩), .int .i32 65533] w fun e w' => e = .returned (.int .i64 (-1)) ∧ Below w.heap.size w w' := by
  go_enter Tryz.func181, Tryz.ntmps181
  have Ha := hid ha
  clear ha
  go_wp2_with fail
  go_loopw [] (fun wr => ∃ i : Nat, i ≤ l.length ∧ wr = w.iter ⟨List.toArray l⟩ i) (fun wr => l.length - wr.iterPos w.heap.size)
  case atStart => exact ⟨0, by omega, rfl⟩
  case round =>
    obtain ⟨i, hi, rfl⟩ := hrel
    by_cases hlt : i < l.length
    · have hnx := fun ty => run_next_ascii (P := Tryz.prog) w ⟨List.toArray l⟩ i ty hlt (Ha.out i hlt)
      have hb := Ha.out i hlt
      have hx : ((l[i].toNat : Int) == 65533) = false := beq_eq_false_iff_ne.2 (by omega)
      simp only [get_list] at hnx
      go_wp2_with fail
      go_roundw
      case rel => exact ⟨i + 1, by omega, rfl⟩
      case measure => simp; omega
    · have hnx := run_next_end (P := Tryz.prog) w ⟨List.toArray l⟩ i
      have hsz : l.length ≤ i := by omega
      go_wp2_with fail
      go_ret
      exact ⟨rfl, (Below.refl _ _).alloc (Nat.le_refl _) _⟩
set_option maxRecDepth 100000 in
set_option maxHeartbeats 400000 in
theorem indexRune_bad (l : Bytes) (r : Int) (w : World) (h1 : 128 ≤ r) (h2 : r ≤ 2147483647) (h3 : (r == 65533) = false) (h4 : Lib.validRune r = false) :
    Calls Tryz.prog 181 #[(Value.string ⟨List.toArray (l)⟩), .int .i32 r] w fun e w' => e = .returned (.int .i64 (-1)) ∧ Below w.heap.size w w' := by
  have h5 := hid h4
  go_enter Tryz.func181, Tryz.ntmps181
  go_wp2_with (go_at_call 201; refine (Tryz.utf8_ValidRune _ _).mono ?_; rintro e w' ⟨rfl, rfl⟩)
  go_ret
  exact ⟨rfl, Below.refl _ _⟩
set_option maxRecDepth 100000 in
set_option maxHeartbeats 400000 in
theorem indexRune_high (l : Bytes) (r : Int) (w : World) (ha : ∀ i (h : i < l.length), l[i].toNat < 128) (hl : l.length ≤ 1000000) (h1 : 128 ≤ r) (h2 : r ≤ 2147483647) (h3 : (r == 65533) = false) (h4 : Lib.validRune r = true) :
    Calls Tryz.prog 181 #[(Value.string ⟨List.toArray (l)⟩), .int .i32 r] w fun e w' => e = .returned (.int .i64 (-1)) ∧ Below w.heap.size w w' := by
  have Ha := hid ha
  clear ha
  go_enter Tryz.func181, Tryz.ntmps181
  go_wp2_with (go_at_call 201; refine (Tryz.utf8_ValidRune _ _).mono ?_; rintro e w' ⟨rfl, rfl⟩)
  go_step3
  go_wp2_with fail
  obtain ⟨el, hel, he1, he2, he3⟩ := encode_high r h1 h4
  have He3 := hid he3
  clear he3
  rw [hel]
  have hx : wrap64 ((ByteArray.size ⟨List.toArray el⟩ : Int) - 1) = ((el.length - 1 : Nat) : Int) := by
    have : ByteArray.size ⟨List.toArray el⟩ = el.length := rfl
    rw [this, IntWalk.wrap64_in _ ⟨by omega, by omega⟩]
    omega
  rw [hx]
  clear hel hx h1 h2 h3 h4
  refine wp_loop_once ?_
  by_cases hlt : el.length - 1 < l.length
  · have hle : el.length - 1 < el.length := by omega
    have hbt := Ha.out _ hlt
    have hc := He3.out (by omega)
    have hne : ((l[el.length - 1].toNat : Int) != (el[el.length - 1].toNat : Int)) = true := by rw [bne_iff_ne]; omega
    have hno := indexByte_no (l.drop (el.length - 1 + 1)) el[el.length - 1] (fun b hb hx => by
      obtain ⟨j, hj, rfl⟩ := List.mem_iff_getElem.1 hb
      rw [List.getElem_drop] at hx
      have h1 := Ha.out (el.length - 1 + 1 + j) (by simp at hj; omega)
      rw [hx] at h1
      omega)
    have Hno := hid hno
    clear hno
    go_wp2_with fail
    go_step3
    go_wp2_with fail
    go_quiet (fail)
    go_wp2_with fail
    have hb : Below w'.heap.size w' (w'.drewN nq) := below_drewN (Below.refl _ _) _
    generalize w'.drewN nq = w2 at hb ⊢
    have hs1 : IntKind.i64.wrap (((el.length - 1 : Nat) : Int) + 1) = ((el.length - 1 : Nat) : Int) + 1 := IntWalk.i64_in _ (by omega)
    have hs2 : (0 : Int) ≤ ((el.length - 1 : Nat) : Int) + 1 := by omega
    have hs3 : (((el.length - 1 : Nat) : Int) + 1).toNat = el.length - 1 + 1 := by omega
    have hs4 : ((el.length - 1 : Nat) : Int) + 1 ≤ (l.length : Int) := by omega
    go_quiet ((go_at_call 141; refine Calls.quiet_of_same (Tryz.strings_IndexByte _ _ _)))
    clear hs1 hs2 hs3 hs4
    rw [show ((el[el.length - 1].toNat : Int)).toNat.toUInt8 = el[el.length - 1] from by simp, Hno.out]
    go_wp2_with fail
    rw [Exit.noGoto_ret]
    go_wp2_with fail
    rw [Exit.noGoto_ret]
    go_ret
    exact ⟨rfl, below_drewN hb _⟩
  · go_wp2_with fail
    rw [Exit.noGoto_ret]
    go_ret
    exact ⟨rfl, Below.refl _ _⟩
theorem noAny_high (s : ByteArray) (set : Bytes) (i k : Nat) (hn : Lib.NoAny s.data.toList set i) (hset : ∀ j (h : j < set.length), set[j].toNat < 128) (hh : ∀ j, i ≤ j → j < i + k → ∀ h : j < s.size, 128 ≤ s[j].toNat) : Lib.NoAny s.data.toList set (i + k) := by
  intro j b hj hb
  by_cases hji : j < i
  · exact hn j b hji hb
  · obtain ⟨hjs, rfl⟩ := List.getElem?_eq_some_iff.1 hb
    have hs : j < s.size := by rw [Lib.size_eq]; exact hjs
    have h1 : 128 ≤ (s.data.toList[j]).toNat := hh j (by omega) hj hs
    rw [Bool.eq_false_iff]
    intro hc
    have hmem := List.contains_iff_mem.1 hc
    obtain ⟨q, hq, he⟩ := List.mem_iff_getElem.1 hmem
    have h2 := hset q hq
    rw [he] at h2
    omega
theorem get_bang (s : ByteArray) (j : Nat) (h : j < s.size) : (s.get! j).toNat = s[j].toNat := by
  have := get_at s j h
  rw [Nat.add_zero] at this
  rw [this]
theorem cont_high (s : ByteArray) (j : Nat) (h : (decide (j < s.size) && (s.get! j).toNat / 64 == 2) = true) : j < s.size ∧ ∀ h : j < s.size, 128 ≤ s[j].toNat := by
  simp only [Bool.and_eq_true, decide_eq_true_eq, beq_iff_eq] at h
  refine ⟨h.1, fun hj => ?_⟩
  have := h.2
  rw [get_bang s j hj] at this
  omega
def Span (s : ByteArray) (i : Nat) (p : Nat × Nat) : Prop := i + p.2 ≤ s.size ∧ ∀ j, i ≤ j → j < i + p.2 → ∀ h : j < s.size, 128 ≤ s[j].toNat
theorem decode_span (s : ByteArray) (i : Nat) (h : i < s.size) (hx : 128 ≤ s[i].toNat) : Span s i (Utf8.decode s i) := by
  have one : ∀ e, Span s i (e, 1) := fun e => ⟨by dsimp only; omega, fun j h1 h2 h3 => by
    dsimp only at h2
    obtain rfl : j = i := by omega
    exact hx⟩
  unfold Utf8.decode
  dsimp only
  split
  · exact one _
  split
  · rename_i hc
    simp only [Bool.and_eq_true] at hc
    have c1 := cont_high s (i + 1) (by simpa using hc.2)
    split
    · refine ⟨by dsimp only; omega, fun j h1 h2 h3 => ?_⟩
      dsimp only at h2
      rcases Nat.lt_or_ge j (i + 1) with h' | h'
      · exact (one 0).2 j h1 h' h3
      · obtain rfl : j = i + 1 := by omega
        exact c1.2 h3
    · exact one _
  · split
    · rename_i hc
      simp only [Bool.and_eq_true] at hc
      have c1 := cont_high s (i + 1) (by simpa using hc.1.2)
      have c2 := cont_high s (i + 2) (by simpa using hc.2)
      split
      · refine ⟨by dsimp only; omega, fun j h1 h2 h3 => ?_⟩
        dsimp only at h2
        rcases Nat.lt_or_ge j (i + 1) with h' | h'
        · exact (one 0).2 j h1 h' h3
        · rcases Nat.lt_or_ge j (i + 2) with h'' | h''
          · obtain rfl : j = i + 1 := by omega
            exact c1.2 h3
          · obtain rfl : j = i + 2 := by omega
            exact c2.2 h3
      · exact one _
    · split
      · rename_i hc
        simp only [Bool.and_eq_true] at hc
        have c1 := cont_high s (i + 1) (by simpa using hc.1.1.2)
        have c2 := cont_high s (i + 2) (by simpa using hc.1.2)
        have c3 := cont_high s (i + 3) (by simpa using hc.2)
        split
        · refine ⟨by dsimp only; omega, fun j h1 h2 h3 => ?_⟩
          dsimp only at h2
          rcases Nat.lt_or_ge j (i + 1) with h' | h'
          · exact (one 0).2 j h1 h' h3
          · rcases Nat.lt_or_ge j (i + 2) with h'' | h''
            · obtain rfl : j = i + 1 := by omega
              exact c1.2 h3
            · rcases Nat.lt_or_ge j (i + 3) with h4 | h4
              · obtain rfl : j = i + 2 := by omega
                exact c2.2 h3
              · obtain rfl : j = i + 3 := by omega
                exact c3.2 h3
        · exact one _
      · exact one _
theorem indexRune_any (l : Bytes) (r : Int) (w : World) (ha : ∀ i (h : i < l.length), l[i].toNat < 128) (hl : l.length ≤ 1000000) (h1 : 128 ≤ r) (h2 : r ≤ 2147483647) :
    Calls Tryz.prog 181 #[(Value.string ⟨List.toArray (l)⟩), .int .i32 r] w fun e w' => e = .returned (.int .i64 (-1)) ∧ Below w.heap.size w w' := by
  by_cases h3 : r = 65533
  · subst h3
    exact indexRune_err l w ha hl
  · cases h4 : Lib.validRune r
    · exact indexRune_bad l r w h1 h2 (beq_eq_false_iff_ne.2 h3) h4
    · exact indexRune_high l r w ha hl h1 h2 (beq_eq_false_iff_ne.2 h3) h4

theorem iterPos_at {w : World} {k : Nat} {s : ByteArray} {p : Nat} (h : w.heap[k]? = some (.stringIter s p)) : w.iterPos k = p := by unfold World.iterPos; rw [h]

set_option maxRecDepth 100000 in
set_option maxHeartbeats 400000 in
theorem indexAny_short (s l : Bytes) (w : World) (ha : ∀ i (h : i < l.length), l[i].toNat < 128) (hl : l.length ≤ 1000000) (h2 : 2 ≤ l.length) (h8 : s.length ≤ 8) :
    Calls Tryz.prog 154 #[(Value.string ⟨List.toArray (s)⟩), (Value.string ⟨List.toArray (l)⟩)] w fun e w' => e = .returned (.int .i64 (Lib.indexAny s l)) ∧ Below w.heap.size w w' := by
  have Ha := hid ha
  clear ha
  have hemp : l.isEmpty = false := by cases l <;> simp at h2 ⊢
  have hn1 : ((l.length : Int) == 1) = false := beq_eq_false_iff_ne.2 (by omega)
  have h8z : decide ((8 : Int) < (s.length : Int)) = false := decide_eq_false (by omega)
  go_enter Tryz.func154, Tryz.ntmps154
  go_wp2_with (go_at_call 182; refine (Tryz.strings_shouldUseASCIISet _ _).mono ?_; rintro e w' ⟨rfl, hw⟩; rw [hw, h8z])
  go_loopw [] (fun wr => ∃ i : Nat, i ≤ s.length ∧ wr.heap[w.heap.size]? = some (.stringIter ⟨List.toArray s⟩ i) ∧ Below w.heap.size w wr ∧ Lib.NoAny s l i) (fun wr => s.length - wr.iterPos w.heap.size)
  case atStart => exact ⟨0, by omega, World.iter_heap _ _ _, (Below.refl _ _).alloc (Nat.le_refl _) _, Lib.NoAny.zero _ _⟩
  case round =>
    obtain ⟨i, hi, hit, hbl, hno⟩ := hrel
    have Hit := hid hit
    have Hbl := hid hbl
    have Hno := hid hno
    clear hit hbl hno
    have hpos : wr.iterPos w.heap.size = i := by unfold World.iterPos; rw [Hit.out]
    have Hpos := hid hpos
    clear hpos
    have hlt0 : w.heap.size < wr.heap.size := (Array.getElem?_eq_some_iff.1 Hit.out).1
    by_cases hlt : i < s.length
    · by_cases hx : s[i].toNat < 128
      · have hnx := fun ty => Lib.run_next_ascii_at (P := Tryz.prog) wr w.heap.size ⟨List.toArray s⟩ i ty Hit.out hlt hx
        simp only [get_list] at hnx
        have hcon := Lib.contains_iff_indexByte l s[i]
        have hback : ((s[i].toNat : Int)).toNat.toUInt8 = s[i] := by simp
        cases hin : l.contains s[i]
        · rw [hin] at hcon
          have hneg : ¬ ((0 : Int) ≤ Lib.indexByte l s[i]) := of_decide_eq_false hcon.symm
          clear hcon
          go_wp2_with (go_at_call 181; refine (Tryz.strings_IndexRune_ascii _ _ _ (by omega) (by omega)).mono ?_; rintro e w' ⟨rfl, hw⟩; rw [hw, hback])
          have hk := Lib.iterAt_heap wr w.heap.size ⟨List.toArray s⟩ i (i + 1) Hit.out
          have hxl : (⟨List.toArray s⟩ : ByteArray).data.toList[i]? = some s[i] := List.getElem?_eq_getElem hlt
          refine ⟨⟨i + 1, by omega, hk, Lib.below_iterAt Hbl.out (Nat.le_refl _) _ _, Hno.out.succ hxl hin⟩, ?_⟩
          rw [iterPos_at hk, Hpos.out]; omega
        · rw [hin] at hcon
          have hge : ((0 : Int) ≤ Lib.indexByte l s[i]) := of_decide_eq_true hcon.symm
          clear hcon
          go_wp2_with (go_at_call 181; refine (Tryz.strings_IndexRune_ascii _ _ _ (by omega) (by omega)).mono ?_; rintro e w' ⟨rfl, hw⟩; rw [hw, hback])
          have hxl : s[i]? = some s[i] := List.getElem?_eq_getElem hlt
          go_ret
          exact ⟨ret_int (by rw [Lib.indexAny_hit Hno.out hxl hin]), Lib.below_iterAt Hbl.out (Nat.le_refl _) _ _⟩
      · have hnx := fun ty => Lib.run_next_any_at (P := Tryz.prog) wr w.heap.size ⟨List.toArray s⟩ i ty Hit.out hlt
        have hd := decode_high ⟨List.toArray s⟩ i hlt (by simp only [get_list]; omega)
        have hd2 := decode_le ⟨List.toArray s⟩ i
        go_wp2_with (go_at_call 181; refine (indexRune_any l _ _ Ha.out hl (by omega) (by omega)).mono ?_; rintro e w' ⟨rfl, hw⟩)
        have hsp := decode_span ⟨List.toArray s⟩ i hlt (by simp only [get_list]; omega)
        have hk := Lib.iterAt_heap wr w.heap.size ⟨List.toArray s⟩ i (i + (Utf8.decode ⟨List.toArray s⟩ i).2) Hit.out
        have hk2 := (hw.block w.heap.size (by rw [Lib.iterAt_size]; exact hlt0)).trans hk
        have hle : i + (Utf8.decode ⟨List.toArray s⟩ i).2 ≤ s.length := hsp.1
        refine ⟨⟨_, hle, hk2, (Lib.below_iterAt Hbl.out (Nat.le_refl _) _ _).trans (hw.mono (by rw [Lib.iterAt_size]; omega)), noAny_high ⟨List.toArray s⟩ l i _ Hno.out Ha.out hsp.2⟩, ?_⟩
        rw [iterPos_at hk2, Hpos.out]; omega
    · have hnx := fun ty => Lib.run_next_end_at (P := Tryz.prog) wr w.heap.size ⟨List.toArray s⟩ i ty Hit.out hlt
      go_wp2_with fail
      go_ret
      exact ⟨ret_int (by rw [Lib.indexAny_none (by rw [show s.length = i by omega]; exact Hno.out)]), Hbl.out⟩

theorem strings_IndexAny (s l : Bytes) (w : World) (ha : ∀ i (h : i < l.length), l[i].toNat < 128) (hl : l.length ≤ 1000000) (h2 : 2 ≤ l.length) (hs : s.length < 4294967281) :
    Calls Tryz.prog 154 #[(Value.string ⟨List.toArray (s)⟩), (Value.string ⟨List.toArray (l)⟩)] w fun e w' => e = .returned (.int .i64 (Lib.indexAny s l)) ∧ Below w.heap.size w w' := by
  rcases Nat.lt_or_ge 8 s.length with h8 | h8
  · refine (Tryz.strings_IndexAny_long (fun _ => by kernel_rfl) ⟨List.toArray s⟩ ⟨List.toArray l⟩ w h2 h8 hs (show l.length < 4294967281 by omega) (fun j b hb => ?_)).mono ?_
    · obtain ⟨hj, rfl⟩ := List.getElem?_eq_some_iff.1 hb
      exact ha j hj
    · rintro e w' ⟨rfl, rfl⟩
      exact ⟨rfl, ((Below.refl _ _).alloc (Nat.le_refl _) _).alloc (by simp) _⟩
  · exact indexAny_short s l w ha hl h2 h8
end Go.Proofs.YtcndmooeglfilaaGreatDoor
/- The walks of package ascii. -/
set_option linter.all false
namespace Go.Proofs.YtcndmooeglfilaaGreatDoor
open Go.RowKit Wf
attribute [local go_sem] ex_list app_list get_list
set_option maxHeartbeats 400000 in
theorem ascii_IsDigit (c : UInt8) (w : World) : Calls Tryz.prog 144 #[.int .u8 c.toNat] w fun e w' => e = .returned (.bool (isDigit c)) ∧ w = w' := by
  go_enter Tryz.func144, Tryz.ntmps144
  go_wp2
  all_goals
    go_ret
    refine ⟨ret_bool ?_, rfl⟩
    have hb := or32 c
    have hc := c.toNat_lt
    rw [Bool.eq_iff_iff]
    simp [isDigit]
    try omega
set_option maxHeartbeats 400000 in
theorem ascii_IsAlpha (c : UInt8) (w : World) : Calls Tryz.prog 185 #[.int .u8 c.toNat] w fun e w' => e = .returned (.bool (isAlpha c)) ∧ w = w' := by
  go_enter Tryz.func185, Tryz.ntmps185
  go_wp2
  all_goals
    go_ret
    refine ⟨ret_bool ?_, rfl⟩
    have hb := or32 c
    have hc := c.toNat_lt
    rw [Bool.eq_iff_iff]
    simp [isAlpha]
    try omega
set_option maxHeartbeats 400000 in
theorem ascii_IsHex (c : UInt8) (w : World) : Calls Tryz.prog 149 #[.int .u8 c.toNat] w fun e w' => e = .returned (.bool (isHex c)) ∧ w = w' := by
  go_enter Tryz.func149, Tryz.ntmps149
  go_wp2
  all_goals
    go_ret
    refine ⟨ret_bool ?_, rfl⟩
    have hb := or32 c
    have hc := c.toNat_lt
    rw [Bool.eq_iff_iff]
    simp [isHex]
    try omega
set_option maxHeartbeats 400000 in
theorem ref01_IsDigit (c : UInt8) (w : World) : Calls Tryz.prog 96 #[.int .u8 c.toNat] w fun e w' => e = .returned (.bool (isDigit c)) ∧ w = w' := by
  go_enter Tryz.func96, Tryz.ntmps96
  go_wp2
  all_goals
    go_ret
    refine ⟨ret_bool ?_, rfl⟩
    have hb := or32 c
    have hc := c.toNat_lt
    rw [Bool.eq_iff_iff]
    simp [isDigit]
    try omega
set_option maxHeartbeats 400000 in
theorem ref01_IsAlpha (c : UInt8) (w : World) : Calls Tryz.prog 98 #[.int .u8 c.toNat] w fun e w' => e = .returned (.bool (isAlpha c)) ∧ w = w' := by
  go_enter Tryz.func98, Tryz.ntmps98
  go_wp2
  all_goals
    go_ret
    refine ⟨ret_bool ?_, rfl⟩
    have hb := or32 c
    have hc := c.toNat_lt
    rw [Bool.eq_iff_iff]
    simp [isAlpha]
    try omega
set_option maxHeartbeats 400000 in
theorem ref01_IsHex (c : UInt8) (w : World) : Calls Tryz.prog 135 #[.int .u8 c.toNat] w fun e w' => e = .returned (.bool (isHex c)) ∧ w = w' := by
  go_enter Tryz.func135, Tryz.ntmps135
  go_wp2
  all_goals
    go_ret
    refine ⟨ret_bool ?_, rfl⟩
    have hb := or32 c
    have hc := c.toNat_lt
    rw [Bool.eq_iff_iff]
    simp [isHex]
    try omega
end Go.Proofs.YtcndmooeglfilaaGreatDoor
/- Rows of bytes of the call's own: what a conversion lays, reads and stores; a string made of them. -/
set_option linter.all false
namespace Go.Proofs.YtcndmooeglfilaaGreatDoor
open Go.RowKit Wf
def u8V (b : UInt8) : Value := .int .u8 b.toNat
def RowU8 (w : World) (b : Nat) (l : Bytes) : Prop := ∃ (rest : List Value) (T : TypeId) (fz : Nat × Nat), w.heap[b]? = some (.cells (l.map u8V ++ rest).toArray T fz) ∧ (l.length ≤ fz.1 ∨ fz.2 ≤ fz.1)
theorem RowU8.cell {w : World} {b : Nat} {l : Bytes} (h : RowU8 w b l) {k : Nat} (hk : k < l.length) : w.cell? ⟨b, k, none⟩ = some (.int .u8 l[k].toNat) := by
  obtain ⟨rest, T, fz, hb, _⟩ := h
  rw [Lib.cell_of_heap hb k]
  simp [List.getElem?_append_left, hk, u8V]
theorem RowU8.frozen {w : World} {b : Nat} {l : Bytes} (h : RowU8 w b l) {k : Nat} (hk : k < l.length) : w.frozen? ⟨b, k, none⟩ = false := by
  obtain ⟨rest, T, fz, hb, hf⟩ := h
  simp only [World.frozen?, hb]
  simp
  omega
theorem RowU8.set {w : World} {b : Nat} {l : Bytes} (h : RowU8 w b l) {k : Nat} (hk : k < l.length) (x : UInt8) : RowU8 (w.setCell ⟨b, k, none⟩ (.int .u8 x.toNat)) b (l.set k x) := by
  obtain ⟨rest, T, fz, hb, hf⟩ := h
  refine ⟨rest, T, fz, ?_, by simpa using hf⟩
  rw [heap_set hb]
  congr 2
  simp [List.set_append_left, hk, List.map_set, u8V]
theorem RowU8.lt {w : World} {b : Nat} {l : Bytes} (h : RowU8 w b l) : b < w.heap.size := by
  obtain ⟨rest, T, fz, hb, _⟩ := h
  exact heap_lt hb
theorem RowU8.back {w : World} {b : Nat} {l : Bytes} (h : RowU8 w b l) (cap : Nat) :
    (convert 118 9 (.slice (some ⟨b, 0, none⟩) l.length cap)).run Tryz.prog w = .ok (Value.string ⟨List.toArray (l)⟩) w := by
  refine run_convert_bytes_back w _ _ 5 ⟨b, 0, none⟩ cap l Tryz.underlying118 Tryz.underlying5 Tryz.underlying9 (fun j hj => ?_)
  have : (⟨b, 0, none⟩ : Addr).add j = ⟨b, j, none⟩ := by
    unfold Addr.add
    split
    · subst j; rfl
    · simp
  rw [this]
  exact h.cell hj
theorem addr_add (b o j : Nat) : (⟨b, o, none⟩ : Addr).add j = ⟨b, o + j, none⟩ := by
  unfold Addr.add
  split
  · subst j; rfl
  · rfl
theorem RowU8.backAt {w : World} {b a : Nat} {y l : Bytes} (h : RowU8 w b (y ++ l)) (hy : y.length = a) (cap : Nat) :
    (convert 118 9 (.slice (some ⟨b, a, none⟩) l.length cap)).run Tryz.prog w = .ok (Value.string ⟨List.toArray (l)⟩) w := by
  refine run_convert_bytes_back w _ _ 5 ⟨b, a, none⟩ cap l Tryz.underlying118 Tryz.underlying5 Tryz.underlying9 (fun j hj => ?_)
  rw [addr_add]
  subst hy
  have h1 := h.cell (k := y.length + j) (by simp; omega)
  have h2 : (y ++ l)[y.length + j]'(by simp; omega) = l[j] := by rw [List.getElem_append_right (Nat.le_add_right _ _)]; simp
  rw [h2] at h1
  exact h1
theorem conv_bytes (w : World) (s : Bytes) : ∃ (w1 : World) (cap : Nat), (convert 9 118 (Value.string ⟨List.toArray (s)⟩)).run Tryz.prog w = .ok (.slice (some ⟨w.heap.size, 0, none⟩) s.length cap) w1 ∧ RowU8 w1 w.heap.size s ∧ Below w.heap.size w w1 := by
  refine ⟨_, _, Lib.run_convert_string_bytes w _ _ 5 ⟨List.toArray s⟩ Tryz.underlying9 Tryz.underlying118 Tryz.underlying5, ?_, ?_⟩
  · refine ⟨(Array.replicate (grownCap w s.length 0 5 - s.length) (Value.int .u8 0)).toList, 5, ((Lib.bytesCells w 5 ⟨List.toArray s⟩).size, (Lib.bytesCells w 5 ⟨List.toArray s⟩).size + 1), ?_, ?_⟩
    · rw [Lib.bytesWorld_at_new]
      congr 2
      apply Array.ext'
      simp [Lib.bytesCells]
      rfl
    · left
      simp [Lib.bytesCells]
  · exact ⟨by simp [Lib.bytesWorld, World.freeze]; rfl, rfl, rfl, by rw [Lib.bytesWorld_size]; omega, fun k hk => Lib.bytesWorld_at_old _ _ _ k hk⟩
end Go.Proofs.YtcndmooeglfilaaGreatDoor
/- The walks of package ascii: strings. -/
set_option linter.all false
namespace Go.Proofs.YtcndmooeglfilaaGreatDoor
open Go.RowKit Wf
attribute [local go_sem] ex_list app_list get_list

set_option maxHeartbeats 400000 in
theorem ascii_Lower (s : Bytes) (w : World) (hs : s.length ≤ 9223372036854775807) :
    Calls Tryz.prog 85 #[(Value.string ⟨List.toArray (s)⟩)] w fun e w' => e = .returned (Value.string ⟨List.toArray (lower s)⟩) ∧ Below w.heap.size w w' := by
  obtain ⟨w1, cap, hconv, hrow, hw1⟩ := conv_bytes w s
  have Hrow := hid hrow
  have Hw1 := hid hw1
  clear hrow hw1
  go_enter Tryz.func85, Tryz.ntmps85
  go_wp2_with fail
  go_loopw [10] (fun i wr => ∃ k : Nat, k ≤ s.length ∧ i = .int .i64 k ∧ RowU8 wr w.heap.size (lowTo k s) ∧ Below w.heap.size w wr) (fun i _ => s.length - (intOf i).toNat)
  case atStart => exact ⟨0, by omega, rfl, by rw [lowTo_zero]; exact Hrow.out, Hw1.out⟩
  case round =>
    obtain ⟨k, hk, rfl, hrow, hw⟩ := hrel
    have Hrow := hid hrow
    have Hw := hid hw
    clear hconv hrow hw
    by_cases hlt : k < s.length
    · have hll := lowTo_length k s
      have hcell := Hrow.out.cell (k := k) (by omega)
      have hfz := Hrow.out.frozen (k := k) (by omega)
      rw [lowTo_get hlt] at hcell
      clear hll
      by_cases hcap : 65 ≤ s[k].toNat ∧ s[k].toNat ≤ 90
      · obtain ⟨hc1, hc2⟩ := hcap
        have hst := Hrow.out.set (k := k) (by rw [lowTo_length]; exact hlt) (lowerC s[k])
        rw [lowTo_set hlt, lowerC_cap hc1 hc2] at hst
        have Hst := hid hst
        clear hst
        go_wp2_with fail
        go_roundw
        case rel => exact ⟨k + 1, by omega, by go_num, Hst.out, Hw.out.setCell (p := ⟨w.heap.size, k, none⟩) (Nat.le_refl _) _⟩
        case measure => simp [intOf]; omega
      · have Hn := hid (lowTo_next hlt (lowerC_no hcap))
        have hor : s[k].toNat < 65 ∨ 90 < s[k].toNat := by omega
        rcases hor with h | h
        all_goals
          go_wp2_with fail
          go_roundw
          case rel => exact ⟨k + 1, by omega, by go_num, Hn.out ▸ Hrow.out, Hw.out⟩
          case measure => simp [intOf]; omega
    · have hl : k = s.length := by omega
      have hrow2 := Hrow.out
      rw [hl, lowTo_all] at hrow2
      have hback := hrow2.back cap
      rw [show (lower s).length = s.length by simp [lower]] at hback
      clear hl hrow2
      go_wp2_with fail
      go_ret
      exact ⟨rfl, Hw.out⟩
set_option maxHeartbeats 400000 in
theorem ref01_Lower (s : Bytes) (w : World) (hs : s.length ≤ 9223372036854775807) :
    Calls Tryz.prog 86 #[(Value.string ⟨List.toArray (s)⟩)] w fun e w' => e = .returned (Value.string ⟨List.toArray (lower s)⟩) ∧ Below w.heap.size w w' := by
  obtain ⟨w1, cap, hconv, hrow, hw1⟩ := conv_bytes w s
  have Hrow := hid hrow
  have Hw1 := hid hw1
  clear hrow hw1
  go_enter Tryz.func86, Tryz.ntmps86
  go_wp2_with fail
  go_loopw [9] (fun i wr => ∃ k : Nat, k ≤ s.length ∧ i = .int .i64 k ∧ RowU8 wr w.heap.size (lowTo k s) ∧ Below w.heap.size w wr) (fun i _ => s.length - (intOf i).toNat)
  case atStart => exact ⟨0, by omega, rfl, by rw [lowTo_zero]; exact Hrow.out, Hw1.out⟩
  case round =>
    obtain ⟨k, hk, rfl, hrow, hw⟩ := hrel
    have Hrow := hid hrow
    have Hw := hid hw
    clear hconv hrow hw
    by_cases hlt : k < s.length
    · have hll := lowTo_length k s
      have hcell := Hrow.out.cell (k := k) (by omega)
      have hfz := Hrow.out.frozen (k := k) (by omega)
      rw [lowTo_get hlt] at hcell
      clear hll
      by_cases hcap : 65 ≤ s[k].toNat ∧ s[k].toNat ≤ 90
      · obtain ⟨hc1, hc2⟩ := hcap
        have hst := Hrow.out.set (k := k) (by rw [lowTo_length]; exact hlt) (lowerC s[k])
        rw [lowTo_set hlt, lowerC_cap hc1 hc2] at hst
        have Hst := hid hst
        clear hst
        go_wp2_with fail
        go_roundw
        case rel => exact ⟨k + 1, by omega, by go_num, Hst.out, Hw.out.setCell (p := ⟨w.heap.size, k, none⟩) (Nat.le_refl _) _⟩
        case measure => simp [intOf]; omega
      · have Hn := hid (lowTo_next hlt (lowerC_no hcap))
        have hor : s[k].toNat < 65 ∨ 90 < s[k].toNat := by omega
        rcases hor with h | h
        all_goals
          go_wp2_with fail
          go_roundw
          case rel => exact ⟨k + 1, by omega, by go_num, Hn.out ▸ Hrow.out, Hw.out⟩
          case measure => simp [intOf]; omega
    · have hl : k = s.length := by omega
      have hrow2 := Hrow.out
      rw [hl, lowTo_all] at hrow2
      have hback := hrow2.back cap
      rw [show (lower s).length = s.length by simp [lower]] at hback
      clear hl hrow2
      go_wp2_with fail
      go_ret
      exact ⟨rfl, Hw.out⟩

set_option maxHeartbeats 400000 in
theorem ascii_every (s : Bytes) (w : World) (hs : s.length ≤ 9223372036854775807) :
    Calls Tryz.prog 199 #[(Value.string ⟨List.toArray (s)⟩), .func (.func 144) #[] #[]] w fun e w' => e = .returned (.bool (s.all isDigit)) ∧ w = w' := by
  go_enter Tryz.func199, Tryz.ntmps199
  go_wp2_with fail
  go_loop [8] (fun i => ∃ k : Nat, k ≤ s.length ∧ i = .int .i64 k ∧ (s.take k).all isDigit = true) (fun i => s.length - (intOf i).toNat)
  case atStart => exact ⟨0, by omega, rfl, rfl⟩
  case round =>
    obtain ⟨k, hk, rfl, hall⟩ := hrel
    have Hall := hid hall
    clear hall
    by_cases hlt : k < s.length
    · cases hc : isDigit s[k]
      · have Ha := hid (all_not hlt hc)
        go_wp2_with (go_at_call 144; refine (ascii_IsDigit _ _).mono ?_; rintro e w' ⟨rfl, rfl⟩)
        go_ret
        exact ⟨ret_bool Ha.out.symm, rfl⟩
      · go_wp2_with (go_at_call 144; refine (ascii_IsDigit _ _).mono ?_; rintro e w' ⟨rfl, rfl⟩)
        go_round
        case rel => exact ⟨k + 1, by omega, by go_num, all_take_snoc hlt Hall.out hc⟩
        case measure => simp [intOf]; omega
    · have hall := Hall.out
      rw [List.take_of_length_le (by omega)] at hall
      have Ha := hid hall
      clear hall Hall
      go_wp2_with fail
      go_ret
      exact ⟨ret_bool Ha.out.symm, rfl⟩
set_option maxHeartbeats 400000 in
theorem ascii_Digits (s : Bytes) (w : World) (hs : s.length ≤ 9223372036854775807) :
    Calls Tryz.prog 179 #[(Value.string ⟨List.toArray (s)⟩)] w fun e w' => e = .returned (.bool (digitsOk s)) ∧ w = w' := by
  cases hn : s.isEmpty
  all_goals
    have Hd := hid (show digitsOk s = (!s.isEmpty && s.all isDigit) from rfl)
    rw [hn] at Hd
    go_enter Tryz.func179, Tryz.ntmps179
    go_wp2_with (go_at_call 199; refine (ascii_every _ _ hs).mono ?_; rintro e w' ⟨rfl, rfl⟩)
    go_ret
    exact ⟨ret_bool (by rw [Hd.out]; simp), rfl⟩
set_option maxHeartbeats 400000 in
theorem ref01_Digits (s : Bytes) (w : World) (hs : s.length ≤ 9223372036854775807) :
    Calls Tryz.prog 190 #[(Value.string ⟨List.toArray (s)⟩)] w fun e w' => e = .returned (.bool (digitsOk s)) ∧ w = w' := by
  go_enter Tryz.func190, Tryz.ntmps190
  go_wp2_with fail
  go_loop [3] (fun i => ∃ k : Nat, k ≤ s.length ∧ i = .int .i64 k ∧ (s.take k).all isDigit = true) (fun i => s.length - (intOf i).toNat)
  case atStart => exact ⟨0, by omega, rfl, rfl⟩
  case round =>
    obtain ⟨k, hk, rfl, hall⟩ := hrel
    have Hall := hid hall
    clear hall
    by_cases hlt : k < s.length
    · cases hc : isDigit s[k]
      · have Ha := hid (all_not hlt hc)
        go_wp2_with (go_at_call 96; refine (ref01_IsDigit _ _).mono ?_; rintro e w' ⟨rfl, rfl⟩)
        go_ret
        exact ⟨ret_bool (by unfold digitsOk; rw [Ha.out]; simp), rfl⟩
      · go_wp2_with (go_at_call 96; refine (ref01_IsDigit _ _).mono ?_; rintro e w' ⟨rfl, rfl⟩)
        go_round
        case rel => exact ⟨k + 1, by omega, by go_num, all_take_snoc hlt Hall.out hc⟩
        case measure => simp [intOf]; omega
    · have hall := Hall.out
      rw [List.take_of_length_le (by omega)] at hall
      have Ha := hid hall
      clear hall Hall
      go_wp2_with fail
      go_ret
      exact ⟨ret_bool (by unfold digitsOk; rw [Ha.out]; simp), rfl⟩
set_option maxHeartbeats 400000 in
theorem ref01_In (c : UInt8) (s : Bytes) (w : World) (hs : s.length ≤ 9223372036854775807) :
    Calls Tryz.prog 95 #[.int .u8 c.toNat, (Value.string ⟨List.toArray (s)⟩)] w fun e w' => e = .returned (.bool (has s c)) ∧ w = w' := by
  go_enter Tryz.func95, Tryz.ntmps95
  go_wp2_with fail
  go_loop [5] (fun i => ∃ k : Nat, k ≤ s.length ∧ i = .int .i64 k ∧ has (s.take k) c = false) (fun i => s.length - (intOf i).toNat)
  case atStart => exact ⟨0, by omega, rfl, rfl⟩
  case round =>
    obtain ⟨k, hk, rfl, hall⟩ := hrel
    have Hall := hid hall
    clear hall
    by_cases hlt : k < s.length
    · by_cases hc : s[k] = c
      · have hx : ((s[k].toNat : Int) == (c.toNat : Int)) = true := by simp [hc]
        have Ha := hid (show has s c = true by unfold has; rw [List.contains_iff_mem]; exact hc ▸ List.getElem_mem hlt)
        go_wp2_with fail
        go_ret
        exact ⟨ret_bool Ha.out.symm, rfl⟩
      · have hx : ((s[k].toNat : Int) == (c.toNat : Int)) = false := by
          rw [beq_eq_false_iff_ne]
          intro h
          exact hc (UInt8.toNat_inj.1 (by omega))
        go_wp2_with fail
        go_round
        case rel => exact ⟨k + 1, by omega, by go_num, by
          have := Hall.out
          unfold has at this ⊢
          rw [List.take_succ_eq_append_getElem hlt, List.contains_eq_any_beq, List.any_append, ← List.contains_eq_any_beq, this]
          simp
          exact fun h => hc h.symm⟩
        case measure => simp [intOf]; omega
    · have hall := Hall.out
      rw [List.take_of_length_le (by omega)] at hall
      have Ha := hid hall
      clear hall Hall
      go_wp2_with fail
      go_ret
      exact ⟨ret_bool Ha.out.symm, rfl⟩
set_option maxHeartbeats 400000 in
theorem ref01_Index (s t : Bytes) (w : World) (hs : s.length ≤ 9223372036854775807) (ht : t.length ≤ 9223372036854775807) :
    Calls Tryz.prog 50 #[(Value.string ⟨List.toArray (s)⟩), (Value.string ⟨List.toArray (t)⟩)] w fun e w' => e = .returned (.int .i64 (pre (has t ·) s)) ∧ w = w' := by
  have hle := pre_le (has t ·) s
  go_enter Tryz.func50, Tryz.ntmps50
  go_wp2_with fail
  go_loop [5] (fun i => ∃ k : Nat, k ≤ pre (has t ·) s ∧ i = .int .i64 k) (fun i => s.length - (intOf i).toNat)
  case atStart => exact ⟨0, by omega, rfl⟩
  case round =>
    obtain ⟨k, hk, rfl⟩ := hrel
    by_cases hlt : k < pre (has t ·) s
    · have hc := pre_get hlt (by omega)
      go_wp2_with (go_at_call 95; refine (ref01_In _ _ _ ht).mono ?_; rintro e w' ⟨rfl, rfl⟩)
      go_round
      case rel => exact ⟨k + 1, by omega, by go_num⟩
      case measure => simp [intOf]; omega
    · obtain rfl : k = pre (has t ·) s := by omega
      clear hk hlt
      by_cases hend : pre (has t ·) s < s.length
      · have hc := pre_at hend
        go_wp2_with (go_at_call 95; refine (ref01_In _ _ _ ht).mono ?_; rintro e w' ⟨rfl, rfl⟩)
        go_ret
        exact ⟨rfl, rfl⟩
      · have he := hid (show pre (has t ·) s = s.length by omega)
        go_wp2_with fail
        go_ret
        exact ⟨ret_int (by rw [he.out]), rfl⟩
end Go.Proofs.YtcndmooeglfilaaGreatDoor
/- The library's contracts on strings, for the calculus of conditions. -/
set_option linter.all false
namespace Go.Proofs.YtcndmooeglfilaaGreatDoor
open Go Vc Go.RowKit Wf
theorem below_draws {w w' : World} (h : ∃ n, w' = w.drewN n) : Below w.heap.size w w' := by
  obtain ⟨n, rfl⟩ := h
  exact below_drewN (Below.refl _ _) _
theorem below_same {w w' : World} (h : w = w') : Below w.heap.size w w' := by subst h; exact Below.refl _ _
theorem p_IndexByte (l : Bytes) (c : UInt8) : PC Tryz.V 141 [.str l, .int .u8 c.toNat] (.int .i64 (Lib.indexByte l c)) :=
  ⟨Tryz.call141, by simp [flat, flat.flatL], by simp [flat, flat.flatL], fun w hE => (s_IndexByte l c w).mono fun _ _ ⟨h, k⟩ => ⟨h, below_same k⟩⟩
theorem p_HasPrefix (l p : Bytes) : PC Tryz.V 186 [.str l, .str p] (.bool (Lib.hasPrefix l p)) :=
  ⟨Tryz.call186, by simp [flat, flat.flatL], by simp [flat, flat.flatL], fun w hE => (s_HasPrefix l p w).mono fun _ _ ⟨h, k⟩ => ⟨h, below_same k⟩⟩
theorem p_CutPrefix (l p : Bytes) : PC Tryz.V 107 [.str l, .str p] (.tup [.str (Lib.trimPrefix l p), .bool (Lib.hasPrefix l p)]) :=
  ⟨Tryz.call107, by simp [flat, flat.flatL], by simp [flat, flat.flatL], fun w hE => (s_CutPrefix l p w).mono fun _ _ ⟨h, k⟩ => ⟨h, below_same k⟩⟩
theorem p_TrimPrefix (l p : Bytes) : PC Tryz.V 187 [.str l, .str p] (.str (Lib.trimPrefix l p)) :=
  ⟨Tryz.call187, by simp [flat, flat.flatL], by simp [flat, flat.flatL], fun w hE => (s_TrimPrefix l p w).mono fun _ _ ⟨h, k⟩ => ⟨h, below_same k⟩⟩
theorem p_Cut (l : Bytes) (c : UInt8) (hl : l.length < 4294967281) : PC Tryz.V 62 [.str l, .str [c]] (.tup [.str (cutC c l).1, .str (cutC c l).2.1, .bool (cutC c l).2.2]) :=
  ⟨Tryz.call62, by simp [flat, flat.flatL], by simp [flat, flat.flatL], fun w hE => (s_Cut l c w hE hl).mono fun _ _ ⟨h, k⟩ => ⟨h, below_draws k⟩⟩
theorem p_IndexAny (s l : Bytes) (ha : ∀ i (h : i < l.length), l[i].toNat < 128) (hl : l.length ≤ 1000000) (h2 : 2 ≤ l.length) (hs : s.length < 4294967281) :
    PC Tryz.V 154 [.str s, .str l] (.int .i64 (Lib.indexAny s l)) :=
  ⟨Tryz.call154, by simp [flat, flat.flatL], by simp [flat, flat.flatL], fun w hE => strings_IndexAny s l w ha hl h2 hs⟩
def lastB (s : Bytes) (c : UInt8) : Int := Lib.lastIndexByte ⟨List.toArray s⟩ c.toNat
theorem lastB_eq (s : Bytes) (c : UInt8) : lastB s c = ((s.reverse.dropWhile (· != c)).length : Int) - 1 := by
  have h : ∀ k, k ≤ s.length → Lib.lastIdx ⟨List.toArray s⟩ c.toNat k = (((s.take k).reverse.dropWhile (· != c)).length : Int) - 1 := by
    intro k
    induction k with
    | zero => intro _; simp [Lib.lastIdx]
    | succ k ih =>
      intro hk
      have hk' : k < s.length := by omega
      have e : (⟨List.toArray s⟩ : ByteArray).data[k]! = s[k] := by simp [hk']
      rw [List.take_succ_eq_append_getElem hk', List.reverse_append, List.reverse_singleton, List.singleton_append, Lib.lastIdx, e]
      by_cases hc : s[k] = c
      · rw [if_pos (by rw [hc]), List.dropWhile_cons_of_neg (by simp [hc])]
        simp
        omega
      · rw [if_neg (fun h => hc (UInt8.toNat_inj.1 (by exact_mod_cast h))), List.dropWhile_cons_of_pos (by simp [hc]), ih (by omega)]
  have := h s.length (Nat.le_refl _)
  rw [List.take_length] at this
  exact this
theorem p_LastIndexByte (s : Bytes) (c : UInt8) (hs : s.length < 4611686018427387904) : PC Tryz.V 188 [.str s, .int .u8 c.toNat] (.int .i64 (lastB s c)) :=
  ⟨Tryz.call188, by simp [flat, flat.flatL], by simp [flat, flat.flatL], fun w hE => (Tryz.strings_LastIndexByte ⟨List.toArray s⟩ c.toNat hs w).mono fun _ _ ⟨h, k⟩ => ⟨h, below_same k.symm⟩⟩
theorem hp_no {p q : Bytes} (h : Lib.hasPrefix p q = false) : ¬ (q.isPrefixOf p = true) := by unfold Lib.hasPrefix at h; simp [h]
theorem hp_len {p q : Bytes} (h : Lib.hasPrefix p q = true) : q.length ≤ p.length := (List.isPrefixOf_iff_prefix.1 h).length_le
theorem trim_len (s p : Bytes) : (Lib.trimPrefix s p).length ≤ s.length := by
  unfold Lib.trimPrefix; split <;> simp
theorem byte_is {s : Bytes} {k : Nat} (hk : k < s.length) (c : UInt8) {n : Int} (hn : n = c.toNat) : (((s.getD k 0).toNat : Int) == n) = (s[k] == c) := by
  subst hn
  rw [show s.getD k 0 = s[k] by simp [List.getD, hk], Bool.eq_iff_iff]
  simp only [beq_iff_eq]
  exact ⟨fun h => UInt8.toNat_inj.1 (by exact_mod_cast h), fun h => by rw [h]⟩
theorem one_u8 (l : Bytes) : (l.map u8S).all Vc.one = true := by simp [u8S, Vc.one]
end Go.Proofs.YtcndmooeglfilaaGreatDoor
/- Builders: the contracts on their methods. -/
set_option linter.all false
set_option maxRecDepth 20000
namespace Go.Proofs.YtcndmooeglfilaaGreatDoor
open Go Vc Go.RowKit Wf
set_option linter.unusedSimpArgs false
theorem sc_copyCheck {bs : List Res} {i : Nat} {x y : SV} (hi : bs[i]? = some (.cells [x, y] 125 true)) (hx : x = .v (.pointer none) ∨ x = .p i 0) :
    SC Tryz.V 140 [.p i 0] bs (fun r bs' => r = .tup [] ∧ bs' = bs.set i (.cells [.p i 0, y] 125 true)) := by
  have hil : i < bs.length := (List.getElem?_eq_some_iff.1 hi).1
  refine sc_direct hi rfl Tryz.call140 rfl (fun β fp w hE hh => ?_)
  obtain ⟨h0, ⟨rest, fz, hd, rfl⟩, h3⟩ := hh β (Agr.refl _ _)
  have ea : (concL β [.p i 0]).toArray = #[.pointer (some ⟨(β i).blk, 0, none⟩)] := by simp [concL, conc, h0]
  rw [ea]
  have hc0 : w.cell? ⟨(β i).blk, 0, none⟩ = some (conc β x) := hd.lies 0 _ (by simp)
  rcases hx with rfl | rfl
  · have hsz := hd.1
    have hfz := hd.2
    refine (Any.Builder_copyCheck_fresh { Tryz.lay166 with } Tryz.extra166.toX72 (β i).blk w hc0 ?_ ?_).mono ?_
    · simp [World.shape?, hsz]
      rfl
    · simp [World.frozen?, hsz]
      simp at hfz
      omega
    · rintro e w' ⟨rfl, rfl⟩
      refine ⟨rfl, ?_, fp i, fun k hk => hk, fun β' hβ => ?_⟩
      · exact ⟨rfl, rfl, rfl, by simp [World.setCell], fun k _ hn => Below.heap_setCell _ _ _ _ (fun e => hn ((h3 k).2 e))⟩
      · have hb := hβ i hil
        obtain ⟨k0, ⟨rest, fz', hd', rfl⟩, k3⟩ := hh β' hβ
        refine ⟨k0, ⟨[], fz', ⟨?_, by simpa using hd'.2⟩, rfl⟩, k3⟩
        rw [hb, heap_set hd'.1]
        simp [conc, k0]
  · refine (Any.Builder_copyCheck_used { Tryz.lay166 with } Tryz.extra166.toX72 (β i).blk w ?_).mono ?_
    · rw [hc0]; simp [conc, h0]
    · rintro e w' ⟨rfl, rfl⟩
      exact ⟨rfl, FrW.refl _ _, fp i, fun k hk => hk, hh⟩
theorem w_WriteString {bs : List Res} {i j : Nat} {x : SV} {l s : Bytes} (hi : bs[i]? = some (.cells [x, .o j l.length] 125 true)) (hx : x = .v (.pointer none) ∨ x = .p i 0) (hj : bs[j]? = some (.own (l.map u8S) 5 1 l.length true)) (hij : i ≠ j) (hlen : l.length + s.length ≤ 140737488355328) :
    SC Tryz.V 101 [.p i 0, .str s] bs (fun r bs' => r = .tup [.int .i64 s.length, .v .nilIface] ∧ bs'[i]? = some (.cells [.p i 0, .o bs.length (l ++ s).length] 125 true) ∧ bs'[bs.length]? = some (.own ((l ++ s).map u8S) 5 1 (l ++ s).length true) ∧ ∀ k, k < bs.length → k ≠ i → k ≠ j → bs'[k]? = bs[k]?) := by
  have hil : i < bs.length := (List.getElem?_eq_some_iff.1 hi).1
  refine sc_of 3000 Tryz.func101 rfl Tryz.ntmps101 Tryz.results101 Tryz.call101 (by simp) (fun β β' hb => concL_within bs.length _ (by simp [within, within.withinL, hil]) β β' hb) ?_
  simp only [lawG, ↓Xn, ↓Xo, ↓Xg, ↓Xd, ↓Xe, ↓Xf, Tryz.VΓ, Tryz.Γs, Xp, Xi, Nat.reduceAdd, Nat.reduceSub, Nat.reduceLT, Nat.reduceLeDiff, reduceIte, reduceCtorEq, Nat.reduceEqDiff, implies_true, forall_const, lawV]
  refine callV_sc (sc_copyCheck hi hx) ?_
  rintro r bs1 ⟨rfl, rfl⟩
  have h1 : (bs.set i (.cells [.p i 0, .o j l.length] 125 true))[i]? = some (.cells [.p i 0, .o j l.length] 125 true) := List.getElem?_set_self hil
  have h2 : (bs.set i (.cells [.p i 0, .o j l.length] 125 true))[j]? = some (.own (l.map u8S) 5 1 l.length true) := by rw [List.getElem?_set_ne hij]; exact hj
  have h3 : ∀ k, k ≠ i → (bs.set i (.cells [.p i 0, .o j l.length] 125 true))[k]? = bs[k]? := fun k hk => List.getElem?_set_ne (fun e => hk e.symm)
  have h4 : (bs.set i (.cells [.p i 0, .o j l.length] 125 true)).length = bs.length := List.length_set ..
  generalize bs.set i (.cells [.p i 0, .o j l.length] 125 true) = bs1 at h1 h2 h3 h4 ⊢
  have h5 : ∀ X, (bs1.set j .gone ++ [X])[i]? = some (.cells [.p i 0, .o j l.length] 125 true) := fun X => by
    rw [List.getElem?_append_left (by simp; omega), List.getElem?_set_ne (fun e => hij e.symm)]; exact h1
  simp only [lawG, ↓Xn, ↓Xo, ↓Xg, ↓Xd, ↓Xe, ↓Xf, Tryz.VΓ, Tryz.Γs, Xp, Xi, Nat.reduceAdd, Nat.reduceSub, Nat.reduceLT, Nat.reduceLeDiff, reduceIte, reduceCtorEq, Nat.reduceEqDiff, implies_true, forall_const, lawV, h1, h2, h5]
  refine ⟨⟨one_u8 _, by unfold maxLen; omega, by omega⟩, ?_, ?_, fun k hk hki hkj => ?_⟩
  · rw [List.getElem?_set_self (by simp; omega), h4, List.length_append]
  · rw [List.getElem?_set_ne (by omega), List.getElem?_append_right (by simp; omega)]
    simp [h4]
  · rw [List.getElem?_set_ne (fun e => hki e.symm), List.getElem?_append_left (by simp; omega), List.getElem?_set_ne (fun e => hkj e.symm), h3 k hki]
theorem sc_WriteString {bs : List Res} {i : Nat} {l s : Bytes} (hi : bs[i]? = some (.ext (BldR 125 5 l))) (hlen : l.length + s.length ≤ 140737488355328) :
    SC Tryz.V 101 [.p i 0, .str s] bs (fun r bs' => r = .tup [.int .i64 s.length, .v .nilIface] ∧ bs' = bs.set i (.ext (BldR 125 5 (l ++ s)))) := by
  have hil : i < bs.length := (List.getElem?_eq_some_iff.1 hi).1
  refine sc_open (R' := fun r bs' => r = .tup [.int .i64 s.length, .v .nilIface] ∧ bs'[i]? = some (.cells [.p i 0, .o (bs.length + 1) (l ++ s).length] 125 true) ∧ bs'[bs.length + 1]? = some (.own ((l ++ s).map u8S) 5 1 (l ++ s).length true) ∧ ∀ k, k < bs.length → k ≠ i → bs'[k]? = bs[k]?) hi (fun x hx => (w_WriteString (j := bs.length) (l := l) (s := s) ?_ hx ?_ (by omega) hlen).mono ?_) ?_ (by simp [within, within.withinL, hil])
  · rw [List.getElem?_append_left (by simpa using hil), List.getElem?_set_self hil]
  · rw [List.getElem?_append_right (by simp)]; simp
  · rintro r bs' ⟨rfl, h1, h2, h3⟩
    simp only [List.length_append, List.length_set, List.length_cons, List.length_nil] at h1 h2 h3
    refine ⟨rfl, by simpa using h1, by simpa using h2, fun k hk hki => ?_⟩
    rw [h3 k (by omega) hki (by omega), List.getElem?_append_left (by simpa using hk), List.getElem?_set_ne (fun e => hki e.symm)]
  · rintro r bs' ⟨rfl, h1, h2, h3⟩
    exact ⟨.p i 0, bs.length + 1, l ++ s, rfl, .inr rfl, ⟨rfl, rfl⟩, h1, h2, by omega, h3⟩
set_option maxHeartbeats 4000000 in
set_option maxRecDepth 100000 in
theorem x_String {b : Nat} {p : Value} {t2 : Bt} {f2 : Nat → Prop} {l : Bytes} {w : World} {fz : Nat × Nat} (hd : Head w b 125 [p, oV t2 l.length] [] fz) (hr : Holds bt0 t2 f2 w (.own (l.map u8S) 5 1 l.length true)) :
    Calls Tryz.prog 102 #[.pointer (some ⟨b, 0, none⟩)] w fun e w' => e = .returned (Value.string ⟨List.toArray (l)⟩) ∧ FrW f2 w w' := by
  have mixed : Tryz.prog.follows .mixedOrders = true := by kernel_rfl
  have hb : w.heap[b]? = some (.cells #[p, oV t2 l.length] 125 fz) := by simpa using hd.1
  have hdr : FrW f2 w w.drew := ⟨rfl, rfl, rfl, Nat.le_refl _, fun _ _ _ => rfl⟩
  have hUN : ∀ (W : World) (q : Option Addr), (Builtin.unsafeString_ #[144, 3] 9 #[.pointer q, .int .i64 0]).run Tryz.prog W = .ok (.string .empty) W := fun W q => Lib.run_unsafeString_none W _ _ _ q
  have hcell : ∀ (W : World), W.heap[b]? = w.heap[b]? → W.cell? ⟨b, 1, none⟩ = some (oV t2 l.length) := fun W hW => by
    rw [Lib.cell_of_heap (hW.trans hb)]; rfl
  rcases hr with ⟨h1, h2, h3, h4⟩ | ⟨h1, h2, h3, h4, h5, h6, h7⟩
  · have hl : l = [] := by simpa using h3
    subst hl
    have hv : oV t2 ([] : Bytes).length = .slice none 0 0 := by simp [oV, h1]
    rw [hv] at hb hcell
    have c1 : w.drew.cell? ⟨b, 1, none⟩ = some (.slice none 0 0) := hcell _ rfl
    have hSD : (Builtin.unsafeSliceData_ #[118] 144 #[.slice none 0 0]).run Tryz.prog w.drew = .ok (.pointer none) w.drew := rfl
    go_enter Tryz.func102, Tryz.ntmps102
    go_wp2
    go_region_o
    all_goals (go_wp2; go_ret; exact ⟨rfl, hdr⟩)
  · obtain ⟨h8, rest, fr, h9, h10, h11⟩ := h6 rfl
    obtain ⟨blk, off, cap⟩ := t2
    simp only at h1 h2 h3 h8 h9 h11 h7
    subst h8
    obtain ⟨cap, rfl⟩ : ∃ c, cap = c + 1 := ⟨cap - 1, by omega⟩
    have hv : oV ⟨blk, 0, cap + 1⟩ l.length = .slice (some ⟨blk, 0, none⟩) l.length cap := by simp [oV]
    rw [hv] at hb hcell
    have hg : w.heap[blk]? = some (.cells ((l.map u8S).map (conc bt0) ++ rest).toArray 5 fr) := h9.1
    have hsz : ((l.map u8S).map (conc bt0) ++ rest).toArray.size = cap := by
      simp at h11 ⊢; omega
    by_cases hl : l = []
    · subst hl
      simp only [List.map_nil, List.nil_append, List.length_nil] at hb hcell hg hsz
      have c1 : w.drew.cell? ⟨b, 1, none⟩ = some (.slice (some ⟨blk, 0, none⟩) 0 cap) := hcell _ rfl
      by_cases hc : cap = 0
      · subst hc
        have hbl : b < w.heap.size := (Array.getElem?_eq_some_iff.1 hb).1
        have hSD : (Builtin.unsafeSliceData_ #[118] 144 #[.slice (some ⟨blk, 0, none⟩) 0 0]).run Tryz.prog w.drew = .ok (.pointer (some ⟨w.drew.heap.size, 0, none⟩)) (w.drew.alloc (.view ⟨blk, 0, none⟩ 5)) :=
          Lib.run_unsafeSliceData_zero w.drew _ _ 5 Tryz.underlying144 ⟨blk, 0, none⟩ 0 (5, rest.toArray.size) (by have hg' : w.drew.heap[blk]? = _ := hg; simp [World.shape?, hg'])
        have c2 : (w.drew.alloc (.view ⟨blk, 0, none⟩ 5)).cell? ⟨b, 1, none⟩ = some (.slice (some ⟨blk, 0, none⟩) 0 0) := hcell _ (Lib.alloc_old w.drew _ b hbl)
        have c3 : (w.alloc (.view ⟨blk, 0, none⟩ 5)).drew.cell? ⟨b, 1, none⟩ = some (.slice (some ⟨blk, 0, none⟩) 0 0) := c2
        have c0 : w.cell? ⟨b, 1, none⟩ = some (.slice (some ⟨blk, 0, none⟩) 0 0) := c1
        have hfin : FrW f2 w (w.drew.alloc (.view ⟨blk, 0, none⟩ 5)) := ⟨rfl, rfl, rfl, by simp, fun k hk _ => Lib.alloc_old w.drew _ k hk⟩
        go_enter Tryz.func102, Tryz.ntmps102
        go_wp2
        go_region_o
        all_goals (go_wp2; go_ret; exact ⟨rfl, hfin⟩)
      · have hSD : (Builtin.unsafeSliceData_ #[118] 144 #[.slice (some ⟨blk, 0, none⟩) 0 cap]).run Tryz.prog w.drew = .ok (.pointer (some ⟨blk, 0, none⟩)) w.drew :=
          Lib.run_unsafeSliceData_row _ _ _ _ _ _ hc
        clear hc
        go_enter Tryz.func102, Tryz.ntmps102
        go_wp2
        go_region_o
        all_goals (go_wp2; go_ret; exact ⟨rfl, hdr⟩)
    · have hl0 : l.length ≠ 0 := by simpa using hl
      have c1 : w.drew.cell? ⟨b, 1, none⟩ = some (.slice (some ⟨blk, 0, none⟩) l.length cap) := hcell _ rfl
      have hSD : (Builtin.unsafeSliceData_ #[118] 144 #[.slice (some ⟨blk, 0, none⟩) l.length cap]).run Tryz.prog w.drew = .ok (.pointer (some ⟨blk, 0, none⟩)) w.drew :=
        Lib.run_unsafeSliceData_row _ _ _ _ _ _ (by omega)
      have hUS : (Builtin.unsafeString_ #[144, 3] 9 #[.pointer (some ⟨blk, 0, none⟩), .int .i64 l.length]).run Tryz.prog w.drew = .ok (Value.string ⟨List.toArray (l)⟩) (w.drew.freeze ⟨blk, 0, none⟩ l.length) := by
        refine Lib.run_unsafeString_row w.drew 144 3 9 5 Tryz.underlying144 Tryz.extra166.cellsByte blk cap (by have hg' : w.drew.heap[blk]? = _ := hg; simp only [World.shape?, hg']; simp only [hsz]) l hl (by omega) (by unfold maxLen at h3; omega) ?_
        intro j x hx
        have := h5 j (conc bt0 (u8S x)) (by simp [hx])
        rw [addr_plus]
        simpa [u8S, conc] using this
      have hfin : FrW f2 w (w.drew.freeze ⟨blk, 0, none⟩ l.length) := by
        unfold World.freeze
        split
        · exact hdr
        · refine ⟨rfl, rfl, rfl, by simp, fun k hk hn => ?_⟩
          have hne : k ≠ blk := fun e => hn ((h7 k).2 e)
          simp only [Array.getElem?_modify]
          rw [if_neg (fun e => hne e.symm)]
          rfl
      go_enter Tryz.func102, Tryz.ntmps102
      go_wp2
      go_region_o
      all_goals (go_wp2; go_ret; exact ⟨rfl, hfin⟩)
theorem sc_String {bs : List Res} {i : Nat} {l : Bytes} (hi : bs[i]? = some (.ext (BldR 125 5 l))) :
    SC Tryz.V 102 [.p i 0] bs (fun r bs' => r = .str l ∧ bs' = bs.set i .gone) := by
  refine sc_direct hi rfl Tryz.call102 rfl (fun β fp w hE hh => ?_)
  obtain ⟨h0, p, t2, f2, hp, ⟨fz, hd⟩, h3, h4, h5⟩ := hh β (Agr.refl _ _)
  have ea : (concL β [.p i 0]).toArray = #[.pointer (some ⟨(β i).blk, 0, none⟩)] := by simp [concL, conc, h0]
  rw [ea]
  refine (x_String hd h3).mono ?_
  rintro e w' ⟨rfl, hf⟩
  exact ⟨rfl, hf.mono (fun k hk => (h5 k).2 (.inr hk)), fun _ => False, fun _ h => h.elim, fun _ _ _ h => h⟩
end Go.Proofs.YtcndmooeglfilaaGreatDoor
/- Builders with a text, perhaps not yet written to; strings.Split. -/
set_option linter.all false
set_option maxRecDepth 20000
namespace Go.Proofs.YtcndmooeglfilaaGreatDoor
open Go Vc Go.RowKit Wf
set_option linter.unusedSimpArgs false
theorem flat_strs : ∀ L : List Bytes, flat.flatL (L.map SV.str) = true
  | [] => by simp [flat.flatL]
  | x :: L => by simp [flat.flatL, flat, flat_strs L]
theorem sc_strSplit {bs : List Res} (s sep : Bytes) (L : List Bytes) (hL : Lib.splitK sep 0 (Lib.count s sep) s = L) (hs : s.length ≤ 1100000) (hp : 1 ≤ sep.length) :
    SC Tryz.V 56 [.str s, .str sep] bs (fun r b => r = .o bs.length L.length ∧ b = bs ++ [.own (L.map SV.str) 9 1 L.length true]) := by
  have hd := Lib.splitB_data ⟨List.toArray sep⟩ 0 (Lib.countB ⟨List.toArray s⟩ ⟨List.toArray sep⟩) ⟨List.toArray s⟩
  have hlen := Lib.splitB_all ⟨List.toArray sep⟩ hp 0 _ ⟨List.toArray s⟩ rfl
  have hle := Lib.countB_le ⟨List.toArray sep⟩ hp s.length ⟨List.toArray s⟩ (Nat.le_refl _)
  have hz : (⟨List.toArray s⟩ : ByteArray).size = s.length := rfl
  have hcl : Lib.countB ⟨List.toArray s⟩ ⟨List.toArray sep⟩ + 1 = L.length := by
    rw [← hlen, ← hL]
    have := congrArg List.length hd
    rw [List.length_map] at this
    exact this
  have e : (Lib.splitB ⟨List.toArray sep⟩ 0 (Lib.countB ⟨List.toArray s⟩ ⟨List.toArray sep⟩) ⟨List.toArray s⟩).map Value.string = L.map strV := by
    rw [← hL]
    refine Eq.trans ?_ (congrArg (List.map strV) hd)
    rw [List.map_map]
    exact List.map_congr_left fun x _ => rfl
  refine (sc_row (V := Tryz.V) (c := L.map SV.str) (T := 9) Tryz.call56 (by simp [flat, flat.flatL]) ?_ ?_ fun w ⟨m, hm⟩ => ?_).mono ?_
  · exact flat_strs L
  · unfold maxLen; rw [List.length_map]; omega
  · refine (Tryz.strings_Split ⟨List.toArray s⟩ ⟨List.toArray sep⟩ m w (show s.length < 4294967281 by omega) hm hp).mono fun _ _ ⟨h, k⟩ => ⟨?_, ?_⟩
    · rw [h, hcl, List.length_map]
    · rw [k, e]
      congr 2
      rw [concL_map, List.map_map]
      exact congrArg List.toArray (List.map_congr_left fun x _ => rfl)
  · rintro r b ⟨h1, h2⟩
    rw [List.length_map] at h1 h2
    exact ⟨h1, h2⟩
def BAt (i : Nat) (l : Bytes) (b : List Res) : Prop := b[i]? = some (.ext (BldR 125 5 l)) ∨ (l = [] ∧ b[i]? = some (.cells [.v (.pointer none), .nils] 125 true))
theorem BAt.lt {i : Nat} {l : Bytes} {b : List Res} (h : BAt i l b) : i < b.length := by
  rcases h with h | ⟨-, h⟩ <;> exact (List.getElem?_eq_some_iff.1 h).1
theorem BAt.set {i : Nat} {l m : Bytes} {b : List Res} (h : BAt i l b) : BAt i m (b.set i (.ext (BldR 125 5 m))) := .inl (List.getElem?_set_self h.lt)
theorem set_same {α : Type} {b : List α} {i : Nat} {x : α} (h : b[i]? = some x) : b.set i x = b := by
  apply List.ext_getElem?
  intro k
  by_cases hk : k = i
  · subst hk; rw [List.getElem?_set_self (List.getElem?_eq_some_iff.1 h).1, h]
  · rw [List.getElem?_set_ne (fun e => hk e.symm)]
theorem sc_WS {bs : List Res} {i : Nat} {l s : Bytes} (h : BAt i l bs) (hlen : l.length + s.length ≤ 140737488355328) :
    SC Tryz.V 101 [.p i 0, .str s] bs (fun r bs' => r = .tup [.int .i64 s.length, .v .nilIface] ∧ bs' = bs.set i (.ext (BldR 125 5 (l ++ s)))) := by
  rcases h with h | ⟨rfl, h⟩
  · exact sc_WriteString h hlen
  · refine sc_fresh h ((sc_WriteString (l := []) (List.getElem?_set_self (List.getElem?_eq_some_iff.1 h).1) hlen).mono ?_)
    rintro r b ⟨h1, h2⟩
    exact ⟨h1, by rw [h2, List.set_set]⟩
theorem sc_Str {bs : List Res} {i : Nat} {l : Bytes} (h : BAt i l bs) :
    SC Tryz.V 102 [.p i 0] bs (fun r bs' => r = .str l ∧ bs' = bs.set i .gone) := by
  rcases h with h | ⟨rfl, h⟩
  · exact sc_String h
  · refine sc_fresh h ((sc_String (l := []) (List.getElem?_set_self (List.getElem?_eq_some_iff.1 h).1)).mono ?_)
    rintro r b ⟨h1, h2⟩
    exact ⟨h1, by rw [h2, List.set_set]⟩
end Go.Proofs.YtcndmooeglfilaaGreatDoor
/- The walks of package percent, and of the classes of bytes that it uses. -/
set_option linter.all false
set_option maxRecDepth 20000
namespace Go.Proofs.YtcndmooeglfilaaGreatDoor
open Go Vc Go.RowKit Wf
theorem p_IsAlpha (c : UInt8) : PC Tryz.V 185 [.int .u8 c.toNat] (.bool (isAlpha c)) :=
  ⟨Tryz.call185, by simp [flat, flat.flatL], by simp [flat, flat.flatL], fun w _ => (ascii_IsAlpha c w).mono fun _ _ ⟨h, k⟩ => ⟨h, below_same k⟩⟩
theorem p_IsDigit (c : UInt8) : PC Tryz.V 144 [.int .u8 c.toNat] (.bool (isDigit c)) :=
  ⟨Tryz.call144, by simp [flat, flat.flatL], by simp [flat, flat.flatL], fun w _ => (ascii_IsDigit c w).mono fun _ _ ⟨h, k⟩ => ⟨h, below_same k⟩⟩
theorem p_IsHex (c : UInt8) : PC Tryz.V 149 [.int .u8 c.toNat] (.bool (isHex c)) :=
  ⟨Tryz.call149, by simp [flat, flat.flatL], by simp [flat, flat.flatL], fun w _ => (ascii_IsHex c w).mono fun _ _ ⟨h, k⟩ => ⟨h, below_same k⟩⟩
theorem idx_geq (set : Bytes) (c : UInt8) : decide (0 ≤ Lib.indexByte set c) = set.contains c := by
  rw [indexByte_pre]
  by_cases h : pre (· == c) set < set.length
  · rw [if_pos h]
    have := pre_at (p := (· == c)) h
    simp only [beq_iff_eq] at this
    simp only [Int.natCast_nonneg, decide_true]
    symm
    rw [List.contains_iff_mem, ← this]
    exact List.getElem_mem h
  · rw [if_neg h]
    simp only [show ¬ (0 : Int) ≤ -1 by omega, decide_false]
    symm
    rw [← Bool.not_eq_true, List.contains_iff_mem]
    intro hm
    obtain ⟨k, hk, rfl⟩ := List.getElem_of_mem hm
    have h2 := pre_le (· == set[k]) set
    have := pre_get (p := (· == set[k])) (l := set) (k := k) (by omega) hk
    simp at this
theorem p_among (c : UInt8) (set : Bytes) : PC Tryz.V 162 [.int .u8 c.toNat, .str set] (.bool (set.contains c)) := by
  refine pc_of 3000 Tryz.func162 rfl Tryz.ntmps162 Tryz.results162 Tryz.call162 (by simp) (by simp [flat, flat.flatL]) (by simp [flat, flat.flatL]) ?_
  simp only [lawG, ↓Xn, ↓Xo, ↓Xg, ↓Xd, ↓Xe, ↓Xf, Tryz.VΓ, Tryz.Γs, Xp, Xi, Nat.reduceAdd, Nat.reduceSub, Nat.reduceLT, Nat.reduceLeDiff, reduceIte, reduceCtorEq, Nat.reduceEqDiff, implies_true, forall_const, lawV]
  (refine callV_pc (p_IndexByte set c) ?_; simp only [lawG, ↓Xn, ↓Xo, ↓Xg, ↓Xd, ↓Xe, ↓Xf, Tryz.VΓ, Tryz.Γs, Xp, Xi, Nat.reduceAdd, Nat.reduceSub, Nat.reduceLT, Nat.reduceLeDiff, reduceIte, reduceCtorEq, Nat.reduceEqDiff, implies_true, forall_const, lawV])
  rw [idx_geq]
theorem p_alnum (c : UInt8) : PC Tryz.V 161 [.int .u8 c.toNat] (.bool (isAlpha c || isDigit c)) := by
  refine pc_of 3000 Tryz.func161 rfl Tryz.ntmps161 Tryz.results161 Tryz.call161 (by simp) (by simp [flat, flat.flatL]) (by simp [flat, flat.flatL]) ?_
  simp only [lawG, ↓Xn, ↓Xo, ↓Xg, ↓Xd, ↓Xe, ↓Xf, Tryz.VΓ, Tryz.Γs, Xp, Xi, Nat.reduceAdd, Nat.reduceSub, Nat.reduceLT, Nat.reduceLeDiff, reduceIte, reduceCtorEq, Nat.reduceEqDiff, implies_true, forall_const, lawV]
  (refine callV_pc (p_IsAlpha c) ?_; simp only [lawG, ↓Xn, ↓Xo, ↓Xg, ↓Xd, ↓Xe, ↓Xf, Tryz.VΓ, Tryz.Γs, Xp, Xi, Nat.reduceAdd, Nat.reduceSub, Nat.reduceLT, Nat.reduceLeDiff, reduceIte, reduceCtorEq, Nat.reduceEqDiff, implies_true, forall_const, lawV])
  refine ⟨fun h => ?_, fun h => by rw [h]; rfl⟩
  (refine callV_pc (p_IsDigit c) ?_; simp only [lawG, ↓Xn, ↓Xo, ↓Xg, ↓Xd, ↓Xe, ↓Xf, Tryz.VΓ, Tryz.Γs, Xp, Xi, Nat.reduceAdd, Nat.reduceSub, Nat.reduceLT, Nat.reduceLeDiff, reduceIte, reduceCtorEq, Nat.reduceEqDiff, implies_true, forall_const, lawV])
  rw [h]; rfl
theorem p_IsUnreserved (c : UInt8) : PC Tryz.V 126 [.int .u8 c.toNat] (.bool (unres c)) := by
  refine pc_of 3000 Tryz.func126 rfl Tryz.ntmps126 Tryz.results126 Tryz.call126 (by simp) (by simp [flat, flat.flatL]) (by simp [flat, flat.flatL]) ?_
  simp only [lawG, ↓Xn, ↓Xo, ↓Xg, ↓Xd, ↓Xe, ↓Xf, Tryz.VΓ, Tryz.Γs, Xp, Xi, Nat.reduceAdd, Nat.reduceSub, Nat.reduceLT, Nat.reduceLeDiff, reduceIte, reduceCtorEq, Nat.reduceEqDiff, implies_true, forall_const, lawV]
  (refine callV_pc (p_alnum c) ?_; simp only [lawG, ↓Xn, ↓Xo, ↓Xg, ↓Xd, ↓Xe, ↓Xf, Tryz.VΓ, Tryz.Γs, Xp, Xi, Nat.reduceAdd, Nat.reduceSub, Nat.reduceLT, Nat.reduceLeDiff, reduceIte, reduceCtorEq, Nat.reduceEqDiff, implies_true, forall_const, lawV])
  refine ⟨fun h => ?_, fun h => by unfold unres; rw [h]; rfl⟩
  (refine callV_pc (p_among c [45, 46, 95, 126]) ?_; simp only [lawG, ↓Xn, ↓Xo, ↓Xg, ↓Xd, ↓Xe, ↓Xf, Tryz.VΓ, Tryz.Γs, Xp, Xi, Nat.reduceAdd, Nat.reduceSub, Nat.reduceLT, Nat.reduceLeDiff, reduceIte, reduceCtorEq, Nat.reduceEqDiff, implies_true, forall_const, lawV])
  unfold unres; rw [h]; rfl
theorem dig_low (c : UInt8) (h : isDigit c = true) : IntKind.u8.wrap ((c.toNat : Int) - 48) = hexVal c := by
  have := all256 (p := fun c => !isDigit c || decide (IntKind.u8.wrap ((c.toNat : Int) - 48) = hexVal c)) (by decide +kernel) c
  simpa [h] using this
theorem dig_high (c : UInt8) (h : isHex c = true) (h2 : isDigit c = false) : IntKind.u8.wrap (IntKind.u8.wrap (bitI .or .u8 (c.toNat : Int) 32 - 97) + 10) = hexVal c := by
  have := all256 (p := fun c => !isHex c || isDigit c || decide (IntKind.u8.wrap (IntKind.u8.wrap (bitI .or .u8 (c.toNat : Int) 32 - 97) + 10) = hexVal c)) (by decide +kernel) c
  simpa [h, h2] using this
theorem p_digit (c : UInt8) (hc : isHex c = true) : PC Tryz.V 150 [.int .u8 c.toNat] (.int .u8 (hexVal c)) := by
  refine pc_of 3000 Tryz.func150 rfl Tryz.ntmps150 Tryz.results150 Tryz.call150 (by simp) (by simp [flat, flat.flatL]) (by simp [flat, flat.flatL]) ?_
  simp only [lawG, ↓Xn, ↓Xo, ↓Xg, ↓Xd, ↓Xe, ↓Xf, Tryz.VΓ, Tryz.Γs, Xp, Xi, Nat.reduceAdd, Nat.reduceSub, Nat.reduceLT, Nat.reduceLeDiff, reduceIte, reduceCtorEq, Nat.reduceEqDiff, implies_true, forall_const, lawV]
  (refine callV_pc (p_IsDigit c) ?_; simp only [lawG, ↓Xn, ↓Xo, ↓Xg, ↓Xd, ↓Xe, ↓Xf, Tryz.VΓ, Tryz.Γs, Xp, Xi, Nat.reduceAdd, Nat.reduceSub, Nat.reduceLT, Nat.reduceLeDiff, reduceIte, reduceCtorEq, Nat.reduceEqDiff, implies_true, forall_const, lawV])
  refine ⟨fun h => ?_, fun h => ?_⟩
  · rw [dig_low c h]
  · rw [dig_high c hc h]
theorem unhex_bits (a b : UInt8) (ha : isHex a = true) (hb : isHex b = true) : bitI .or .u8 (shI .shl .u8 (hexVal a) 4) (hexVal b) = ((unhex a b).toNat : Int) := by
  have h1 := hexVal_le ha
  have h2 := hexVal_le hb
  have : ∀ x, x < 16 → ∀ y, y < 16 → bitI .or .u8 (shI .shl .u8 (x : Nat) 4) (y : Nat) = (((x * 16 + y).toUInt8).toNat : Int) := by decide +kernel
  exact this _ (by omega) _ (by omega)
def escAt (s : Bytes) (i : Nat) : Option UInt8 := (hexPair (s.drop (i + 1))).map fun x => unhex x.1 x.2.1
theorem hexPair_drop (s : Bytes) (i : Nat) : hexPair (s.drop (i + 1)) = if i + 2 < s.length then (if isHex (s.getD (i + 1) 0) && isHex (s.getD (i + 2) 0) then some (s.getD (i + 1) 0, s.getD (i + 2) 0, s.drop (i + 3)) else none) else none := by
  by_cases h : i + 2 < s.length
  · rw [if_pos h, List.drop_eq_getElem_cons (by omega : i + 1 < s.length), List.drop_eq_getElem_cons (by omega : i + 1 + 1 < s.length)]
    simp only [hexPair, List.getD_eq_getElem?_getD]
    simp [show i + 1 < s.length by omega, h]
  · rw [if_neg h]
    have hl : (s.drop (i + 1)).length ≤ 1 := by simp; omega
    match hm : s.drop (i + 1), hl with
    | [], _ => rfl
    | [_], _ => rfl
set_option maxHeartbeats 1000000 in
set_option maxRecDepth 20000 in
theorem p_escaped (s : Bytes) (i : Nat) (hi : i < s.length) (hs : s.length ≤ 9223372036854775807) : PC Tryz.V 112 [.str s, .int .i64 i] (.tup [.int .u8 (((escAt s i).getD 0).toNat : Int), .bool (escAt s i).isSome]) := by
  refine pc_of 3000 Tryz.func112 rfl Tryz.ntmps112 Tryz.results112 Tryz.call112 (by simp) (by simp [flat, flat.flatL]) (by simp [flat, flat.flatL]) ?_
  simp only [lawG, ↓Xn, ↓Xo, ↓Xg, ↓Xd, ↓Xe, ↓Xf, Tryz.VΓ, Tryz.Γs, Xp, Xi, Nat.reduceAdd, Nat.reduceSub, Nat.reduceLT, Nat.reduceLeDiff, reduceIte, reduceCtorEq, Nat.reduceEqDiff, implies_true, forall_const, lawV]
  unfold escAt
  rw [hexPair_drop]
  refine ⟨⟨by omega, by omega⟩, fun hl => ?_, fun hl => ?_⟩
  · have hl : i + 2 < s.length := (by simp at hl; omega)
    rw [if_pos hl]
    refine ⟨⟨by omega, by omega⟩, ⟨by omega, by omega⟩, ?_⟩
    (refine callV_pc (p_IsHex _) ?_; simp only [lawG, ↓Xn, ↓Xo, ↓Xg, ↓Xd, ↓Xe, ↓Xf, Tryz.VΓ, Tryz.Γs, Xp, Xi, Nat.reduceAdd, Nat.reduceSub, Nat.reduceLT, Nat.reduceLeDiff, reduceIte, reduceCtorEq, Nat.reduceEqDiff, implies_true, forall_const, lawV])
    refine ⟨fun ha => ⟨⟨by omega, by omega⟩, ⟨by omega, by omega⟩, ?_⟩, fun ha => ?_⟩
    · have ha : isHex (s.getD (i + 1) 0) = true := by simpa using ha
      (refine callV_pc (p_IsHex _) ?_; simp only [lawG, ↓Xn, ↓Xo, ↓Xg, ↓Xd, ↓Xe, ↓Xf, Tryz.VΓ, Tryz.Γs, Xp, Xi, Nat.reduceAdd, Nat.reduceSub, Nat.reduceLT, Nat.reduceLeDiff, reduceIte, reduceCtorEq, Nat.reduceEqDiff, implies_true, forall_const, lawV])
      refine ⟨fun hb => ?_, fun hb => ⟨⟨by omega, by omega⟩, ⟨by omega, by omega⟩, ?_⟩⟩
      · have hb : isHex (s.getD (i + 2) 0) = false := by simpa using hb
        rw [ha, hb]; rfl
      · have hb : isHex (s.getD (i + 2) 0) = true := by simpa using hb
        (refine callD_pc (p_digit _ ha) ?_; simp only [lawG, ↓Xn, ↓Xo, ↓Xg, ↓Xd, ↓Xe, ↓Xf, Tryz.VΓ, Tryz.Γs, Xp, Xi, Nat.reduceAdd, Nat.reduceSub, Nat.reduceLT, Nat.reduceLeDiff, reduceIte, reduceCtorEq, Nat.reduceEqDiff, implies_true, forall_const, lawV])
        refine ⟨by omega, ⟨by omega, by omega⟩, ⟨by omega, by omega⟩, ?_⟩
        (refine callD_pc (p_digit _ hb) ?_; simp only [lawG, ↓Xn, ↓Xo, ↓Xg, ↓Xd, ↓Xe, ↓Xf, Tryz.VΓ, Tryz.Γs, Xp, Xi, Nat.reduceAdd, Nat.reduceSub, Nat.reduceLT, Nat.reduceLeDiff, reduceIte, reduceCtorEq, Nat.reduceEqDiff, implies_true, forall_const, lawV])
        refine ⟨(OkD_fast (by kernel_rfl)), ?_⟩
        rw [unhex_bits _ _ ha hb, ha, hb]; rfl
    · have ha : isHex (s.getD (i + 1) 0) = false := by simpa using ha
      rw [ha]; rfl
  · have hl : ¬ i + 2 < s.length := (by simp at hl; omega)
    rw [if_neg hl]; rfl
theorem shr4 (c : UInt8) : shI .shr .u8 (c.toNat : Int) 4 = ((c.toNat / 16 : Nat) : Int) := by
  have := all256 (p := fun c => decide (shI .shr .u8 (c.toNat : Int) 4 = ((c.toNat / 16 : Nat) : Int))) (by decide +kernel) c
  simpa using this
theorem and15 (c : UInt8) : bitI .and .u8 (c.toNat : Int) 15 = ((c.toNat % 16 : Nat) : Int) := by
  have := all256 (p := fun c => decide (bitI .and .u8 (c.toNat : Int) 15 = ((c.toNat % 16 : Nat) : Int))) (by decide +kernel) c
  simpa using this
theorem digs_at : ∀ n, n < 16 → ([48, 49, 50, 51, 52, 53, 54, 55, 56, 57, 65, 66, 67, 68, 69, 70] : Bytes).getD n 0 = hexU n := by decide
theorem esc_cells (c : UInt8) : (esc c).map u8S = [.int .u8 37, .int .u8 ((hexU (c.toNat / 16)).toNat : Int), .int .u8 ((hexU (c.toNat % 16)).toNat : Int)] := rfl
structure TxAt (bs : List Res) (i L : Nat) (x : SV) (l : Bytes) : Prop where
  box : bs[i]? = some (.cells [x] 134 true)
  sl : Sl 5 1 L x bs (l.map u8S) l.length
  lt : i < L
theorem TxAt.ne {bs : List Res} {i L j n : Nat} {l : Bytes} (h : TxAt bs i L (.o j n) l) : i ≠ j := by
  rcases h.sl with ⟨h1, -⟩ | ⟨j', h1, h2, -⟩
  · cases h1
  · cases h1; have := h.lt; omega
set_option maxRecDepth 20000 in
set_option maxHeartbeats 1000000 in
theorem sc_escape {bs : List Res} {i L : Nat} {x : SV} {l : Bytes} (h : TxAt bs i L x l) (hL : L ≤ bs.length) (hl : l.length ≤ 1000000) (c : UInt8) :
    SC Tryz.V 142 [.p i 0, .int .u8 c.toNat] bs (fun r b => r = .tup [] ∧ ∃ x', TxAt b i L x' (l ++ esc c) ∧ bs.length ≤ b.length ∧ ∀ k, k < L → k ≠ i → b[k]? = bs[k]?) := by
  have hil : i < bs.length := (List.getElem?_eq_some_iff.1 h.box).1
  have hc := c.toNat_lt
  have d1 := digs_at (c.toNat / 16) (by omega)
  have d2 := digs_at (c.toNat % 16) (by omega)
  have s1 := shr4 c
  have s2 := and15 c
  have hbox := h.box
  have ec := esc_cells c
  refine sc_of 3000 Tryz.func142 rfl Tryz.ntmps142 Tryz.results142 Tryz.call142 (by simp) (fun β β' hb => concL_within bs.length _ (by simp [within, within.withinL, hil]) β β' hb) ?_
  rcases h.sl with ⟨rfl, hc0, hn0⟩ | ⟨j, rfl, hLj, hj⟩
  · obtain rfl : l = [] := by simpa using hc0
    have ho : ∀ X, (bs ++ [X])[i]? = some (.cells [.nils] 134 true) := fun X => at_old hbox [X]
    have ho2 : ∀ X Y, (bs ++ [X] ++ [Y])[i]? = some (.cells [.nils] 134 true) := fun X Y => at_old (ho X) [Y]
    simp only [lawG, ↓Xn, ↓Xo, ↓Xg, ↓Xd, ↓Xe, ↓Xf, Tryz.VΓ, Tryz.Γs, Xp, Xi, Nat.reduceAdd, Nat.reduceSub, Nat.reduceLT, Nat.reduceLeDiff, reduceIte, reduceCtorEq, Nat.reduceEqDiff, implies_true, forall_const, lawV, hbox, s1, s2, Int.toNat_natCast, d1, d2, at_new, ho, ho2]
    rw [← ec]
    have n1 : ¬ bs.length = i := by omega
    have n2 : ∀ X, ¬ (bs ++ [X]).length = i := fun X => by simp; omega
    refine ⟨by omega, ⟨by omega, by omega⟩, ⟨by omega, by omega⟩, by omega, ⟨by unfold maxLen; omega, by omega⟩, ?_, _, ⟨List.getElem?_set_self (by simp; omega), .inr ⟨_, rfl, by simp; omega, ?_⟩, h.lt⟩, by simp, fun k hk hki => ?_⟩
    · exact (by
      refine OkD_ren (fun n => if n = i then 0 else 1) ?_
      simp only [List.map_cons, List.map_nil, renRk, renT, reduceIte, n1, n2]
      exact OkD_fast (by kernel_rfl))
    · rw [List.getElem?_set_ne (fun e => n2 _ e.symm), at_new]; rfl
    · rw [List.getElem?_set_ne (fun e => hki e.symm), List.getElem?_append_left (by simp; omega), List.getElem?_append_left (by omega)]
  · have hij := h.ne
    have hjl : j < bs.length := (List.getElem?_eq_some_iff.1 hj).1
    have ho : ∀ X, (bs ++ [X])[j]? = some (.own (l.map u8S) 5 1 l.length true) := fun X => at_old hj [X]
    have ho2 : ∀ X Y, ((bs ++ [X]).set j .gone ++ [Y])[i]? = some (.cells [.o j l.length] 134 true) := fun X Y => by
      rw [List.getElem?_append_left (by simp; omega), List.getElem?_set_ne hij.symm]; exact at_old hbox [X]
    simp only [lawG, ↓Xn, ↓Xo, ↓Xg, ↓Xd, ↓Xe, ↓Xf, Tryz.VΓ, Tryz.Γs, Xp, Xi, Nat.reduceAdd, Nat.reduceSub, Nat.reduceLT, Nat.reduceLeDiff, reduceIte, reduceCtorEq, Nat.reduceEqDiff, implies_true, forall_const, lawV, hbox, s1, s2, Int.toNat_natCast, d1, d2, at_new, ho, ho2]
    rw [← ec, ← List.map_append]
    have n1 : ¬ bs.length = i := by omega
    have n2 : ∀ X, ¬ (bs ++ [X]).length = i := fun X => by simp; omega
    have n3 : ¬ j = i := fun e => hij e.symm
    refine ⟨by omega, ⟨by omega, by omega⟩, ⟨by omega, by omega⟩, by omega, ⟨by unfold maxLen; omega, by omega⟩, ?_, _, ⟨List.getElem?_set_self (by simp; omega), .inr ⟨(bs ++ [Res.own ((esc c).map u8S) 5 1 3 true]).length, by simp [esc], by simp; omega, ?_⟩, h.lt⟩, by simp; omega, fun k hk hki => ?_⟩
    · exact (by
      refine OkD_ren (fun n => if n = i then 0 else 1) ?_
      simp only [List.map_cons, List.map_nil, renRk, renT, reduceIte, n1, n2, n3]
      exact OkD_fast (by kernel_rfl))
    · rw [List.getElem?_set_ne (fun e => n2 _ e.symm), List.getElem?_append_right (by simp)]; simp [esc]
    · rw [List.getElem?_set_ne (fun e => hki e.symm), List.getElem?_append_left (by simp; omega), List.getElem?_set_ne (by omega), List.getElem?_append_left (by omega)]
theorem TxAt.app {bs : List Res} {i L : Nat} {x : SV} {l : Bytes} (h : TxAt bs i L x l) (X : List Res) : TxAt (bs ++ X) i L x l := ⟨at_old h.box X, h.sl.app X, h.lt⟩
theorem txt_one {bs : List Res} {i L : Nat} {x : SV} {l : Bytes} (h : TxAt bs i L x l) (hL : L ≤ bs.length) (c : UInt8) (hx : x = .nils) : TxAt ((bs ++ [Res.own [u8S c] 5 1 1 true] ++ [Res.own [u8S c] 5 1 1 true]).set i (Res.cells [.o (bs ++ [Res.own [u8S c] 5 1 1 true]).length 1] 134 true)) i L (.o (bs ++ [Res.own [u8S c] 5 1 1 true]).length 1) (l ++ [c]) := by
  have hil : i < bs.length := (List.getElem?_eq_some_iff.1 h.box).1
  have hl : l = [] := by
    rcases h.sl with ⟨-, h1, -⟩ | ⟨j, h1, -, -⟩
    · simpa using h1
    · rw [hx] at h1; cases h1
  subst hl
  have n2 : ∀ X, ¬ (bs ++ [X]).length = i := fun X => by simp; omega
  refine ⟨List.getElem?_set_self (by simp; omega), .inr ⟨_, rfl, by simp; omega, ?_⟩, h.lt⟩
  rw [List.getElem?_set_ne (fun e => n2 _ e.symm), at_new]
  rfl
theorem txt_more {bs : List Res} {i L j : Nat} {l : Bytes} (h : TxAt bs i L (.o j l.length) l) (hL : L ≤ bs.length) (c : UInt8) (hLj : L ≤ j) : TxAt (((bs ++ [Res.own [u8S c] 5 1 1 true]).set j .gone ++ [Res.own (l.map u8S ++ [u8S c]) 5 1 (l.length + 1) true]).set i (Res.cells [.o (bs ++ [Res.own [u8S c] 5 1 1 true]).length (l.length + 1)] 134 true)) i L (.o (bs ++ [Res.own [u8S c] 5 1 1 true]).length (l.length + 1)) (l ++ [c]) := by
  have hil : i < bs.length := (List.getElem?_eq_some_iff.1 h.box).1
  refine ⟨List.getElem?_set_self (by simp; omega), .inr ⟨(bs ++ [Res.own [u8S c] 5 1 1 true]).length, by simp, by simp; omega, ?_⟩, h.lt⟩
  rw [List.getElem?_set_ne (by simp; omega), List.getElem?_append_right (by simp)]
  simp
def NoI (also s : Bytes) (σ : St) : Prop := ∃ (i : Nat) (x : SV) (d : Bytes), lk 0 σ.t = some (.str s) ∧ lk 1 σ.t = some (.str also) ∧ lk 6 σ.t = some (.p 0 0) ∧ lk 7 σ.t = some (.int .i64 i) ∧ i ≤ s.length ∧ d.length ≤ 3 * i ∧ 1 ≤ σ.b.length ∧ TxAt σ.b 0 1 x d ∧ comb d (normU also (units (s.drop i))) = normU also (units s)
def NoM (s : Bytes) (σ : St) : Nat := match lk 7 σ.t with
  | some (.int _ k) => s.length - k.toNat
  | _ => 0
theorem NoM_eq {s : Bytes} {σ : St} {k : Nat} (h : lk 7 σ.t = some (.int .i64 k)) : NoM s σ = s.length - k := by simp [NoM, h]
theorem no_mk {also s : Bytes} {t : List (Nat × SV)} {b : List Res} {i i' : Nat} {x : SV} {d : Bytes} (h0 : lk 0 t = some (.str s)) (h1 : lk 1 t = some (.str also)) (h6 : lk 6 t = some (.p 0 0)) (h7 : lk 7 t = some (.int .i64 i')) (h : i' ≤ s.length ∧ d.length ≤ 3 * i') (hb : 1 ≤ b.length) (ht : TxAt b 0 1 x d)
    (hn : comb d (normU also (units (s.drop i'))) = normU also (units s)) (hlt : i < i') : NoI also s ⟨t, b⟩ ∧ NoM s ⟨t, b⟩ < s.length - i :=
  ⟨⟨i', x, d, h0, h1, h6, h7, h.1, h.2, hb, ht, hn⟩, by rw [NoM_eq h7]; omega⟩
theorem units_step {s : Bytes} {i : Nat} (hi : i < s.length) : units (s.drop i) = if s[i] = 37 then (match escAt s i with
    | some _ => (match hexPair (s.drop (i + 1)) with
      | some (a, b, _) => .hex a b :: units (s.drop (i + 3))
      | none => [.bad])
    | none => [.bad]) else .lit s[i] :: units (s.drop (i + 1)) := by
  rw [List.drop_eq_getElem_cons hi]
  by_cases h : s[i] = 37
  · rw [if_pos h, h]
    unfold escAt
    cases hp : hexPair (s.drop (i + 1)) with
    | none => simp only [Option.map_none]; exact units_bad hp
    | some x =>
      obtain ⟨a, b, r⟩ := x
      obtain ⟨h1, h2, h3⟩ := hexPair_some hp
      simp only [Option.map_some]
      rw [h1, units_hex h2 h3]
      congr 2
      have := congrArg (List.drop 2) h1
      rw [List.drop_drop] at this
      exact this.symm
  · rw [if_neg h, units_lit h]
set_option maxRecDepth 20000 in
set_option maxHeartbeats 4000000 in
theorem p_Normalize (s also : Bytes) (ha : also.length ≤ 1000) : PC Tryz.V 145 [.str s, .str also] (.tup [.str (pctNorm also s).1, .int .i64 (pctNorm also s).2]) := by
  refine pc_of 3000 Tryz.func145 rfl Tryz.ntmps145 Tryz.results145 Tryz.call145 (by simp) (by simp [flat, flat.flatL]) (by simp [flat, flat.flatL]) ?_
  simp only [lawG, ↓Xn, ↓Xo, ↓Xg, ↓Xd, ↓Xe, ↓Xf, Tryz.VΓ, Tryz.Γs, Xp, Xi, Nat.reduceAdd, Nat.reduceSub, Nat.reduceLT, Nat.reduceLeDiff, reduceIte, reduceCtorEq, Nat.reduceEqDiff, implies_true, forall_const, lawV]
  unfold pctNorm
  refine ⟨fun hl => ?_, fun hl => ?_⟩
  · have hl : 16384 < s.length := (by simp at hl; omega)
    rw [if_pos hl]
  have hl : s.length ≤ 16384 := (by simp at hl; omega)
  rw [if_neg (by omega)]
  refine loopV_mk (NoI also s) (NoM s) ⟨0, .nils, [], rfl, rfl, rfl, rfl, by omega, by simp, by simp, ⟨rfl, .inl ⟨rfl, rfl, rfl⟩, by omega⟩, comb_nil _ (normU_err also _)⟩ ?_
  rintro ⟨t, b⟩ ⟨i, x, d, h0, h1, h6, h7, hi, hd, hbl, ht, hn⟩
  simp only at h0 h1 h6 h7 hbl ht
  rw [NoM_eq h7]
  have hbox := ht.box
  by_cases hlt : i < s.length
  · have hu := units_step hlt
    have hg : s.getD i 0 = s[i] := by simp [List.getD, hlt]
    simp only [lawG, ↓Xn, ↓Xo, ↓Xg, ↓Xd, ↓Xe, ↓Xf, Tryz.VΓ, Tryz.Γs, Xp, Xi, Nat.reduceAdd, Nat.reduceSub, Nat.reduceLT, Nat.reduceLeDiff, reduceIte, reduceCtorEq, Nat.reduceEqDiff, implies_true, forall_const, lawV, h0, h1, h6, h7]
    refine ⟨fun _ => ⟨⟨by omega, by omega⟩, fun hc => ?_, fun hc => ?_⟩, fun h => absurd h (by simp; omega)⟩
    · rw [byte_is (n := 37) hlt 37 rfl] at hc
      rw [if_pos (by simpa using hc)] at hu
      have pe := p_escaped s i hlt (by omega)
      cases he : escAt s i with
      | none =>
        rw [he] at pe hu
        simp only at hu
        rw [hu] at hn
        have hres : normU also (units s) = ([], 2) := by rw [← hn]; rfl
        rw [hres]
        (refine callV_pc pe ?_; simp only [lawG, ↓Xn, ↓Xo, ↓Xg, ↓Xd, ↓Xe, ↓Xf, Tryz.VΓ, Tryz.Γs, Xp, Xi, Nat.reduceAdd, Nat.reduceSub, Nat.reduceLT, Nat.reduceLeDiff, reduceIte, reduceCtorEq, Nat.reduceEqDiff, implies_true, forall_const, lawV, h0, h1, h6, h7, Option.isSome_none])
      | some v =>
        rw [he] at pe hu
        have hx := he
        unfold escAt at hx
        obtain ⟨⟨a, bb, r⟩, hp, hv⟩ := Option.map_eq_some_iff.1 hx
        simp only at hv
        rw [hp] at hu
        simp only at hu
        have hi3 : i + 3 ≤ s.length := by
          obtain ⟨h1, -, -⟩ := hexPair_some hp
          have := congrArg List.length h1
          simp at this
          omega
        have hn2 : comb (d ++ normB v) (normU also (units (s.drop (i + 2 + 1)))) = normU also (units s) := by
          rw [← hn, hu, normU, comb_comb, hv]
        simp only [Option.getD_some, Option.isSome_some] at pe
        (refine callV_pc pe ?_; simp only [lawG, ↓Xn, ↓Xo, ↓Xg, ↓Xd, ↓Xe, ↓Xf, Tryz.VΓ, Tryz.Γs, Xp, Xi, Nat.reduceAdd, Nat.reduceSub, Nat.reduceLT, Nat.reduceLeDiff, reduceIte, reduceCtorEq, Nat.reduceEqDiff, implies_true, forall_const, lawV, h0, h1, h6, h7])
        refine ⟨⟨by omega, by omega⟩, ?_⟩
        (refine callV_pc (p_IsUnreserved v) ?_; simp only [lawG, ↓Xn, ↓Xo, ↓Xg, ↓Xd, ↓Xe, ↓Xf, Tryz.VΓ, Tryz.Γs, Xp, Xi, Nat.reduceAdd, Nat.reduceSub, Nat.reduceLT, Nat.reduceLeDiff, reduceIte, reduceCtorEq, Nat.reduceEqDiff, implies_true, forall_const, lawV, h0, h1, h6, h7])
        refine ⟨fun hq => ?_, fun hq => ?_⟩
        · have hn3 : comb (d ++ [v]) (normU also (units (s.drop (i + 2 + 1)))) = normU also (units s) := by
            rw [← hn2]; unfold normB; rw [if_pos hq]
          (rcases ht.sl with ⟨rfl, hc0, hn0⟩ | ⟨j, rfl, hLj, hj⟩
           · have ho : ∀ X, (b ++ [X])[0]? = some (.cells [.nils] 134 true) := fun X => at_old hbox [X]
             have ho2 : ∀ X Y, (b ++ [X] ++ [Y])[0]? = some (.cells [.nils] 134 true) := fun X Y => at_old (ho X) [Y]
             simp only [lawG, ↓Xn, ↓Xo, ↓Xg, ↓Xd, ↓Xe, ↓Xf, Tryz.VΓ, Tryz.Γs, Xp, Xi, Nat.reduceAdd, Nat.reduceSub, Nat.reduceLT, Nat.reduceLeDiff, reduceIte, reduceCtorEq, Nat.reduceEqDiff, implies_true, forall_const, lawV, h0, h1, h6, h7, hbox, at_new, ho, ho2]
             refine ⟨by omega, ⟨by unfold maxLen; omega, by omega⟩, ⟨by omega, by omega⟩, no_mk (i' := i + 2 + 1) (x := .o (b ++ [Res.own [u8S (v)] 5 1 1 true]).length 1) (d := d ++ [v]) h0 h1 h6 (by simp only [lk, reduceIte, Option.some.injEq, SV.int.injEq, true_and]; omega) ⟨by omega, by simp; omega⟩ (by simp) (txt_one ht hbl (v) rfl) (hn3) (by omega)⟩
           · have hlj : d.length = d.length := rfl
             have ho : ∀ X, (b ++ [X])[j]? = some (.own (d.map u8S) 5 1 d.length true) := fun X => at_old hj [X]
             have ho2 : ∀ X Y, ((b ++ [X]).set j .gone ++ [Y])[0]? = some (.cells [.o j d.length] 134 true) := fun X Y => by
               rw [List.getElem?_append_left (by simp), List.getElem?_set_ne (by omega)]; exact at_old hbox [X]
             simp only [lawG, ↓Xn, ↓Xo, ↓Xg, ↓Xd, ↓Xe, ↓Xf, Tryz.VΓ, Tryz.Γs, Xp, Xi, Nat.reduceAdd, Nat.reduceSub, Nat.reduceLT, Nat.reduceLeDiff, reduceIte, reduceCtorEq, Nat.reduceEqDiff, implies_true, forall_const, lawV, h0, h1, h6, h7, hbox, at_new, ho, ho2]
             refine ⟨by omega, ⟨by unfold maxLen; omega, by omega⟩, ⟨by omega, by omega⟩, no_mk (i' := i + 2 + 1) (x := .o (b ++ [Res.own [u8S (v)] 5 1 1 true]).length (d.length + 1)) (d := d ++ [v]) h0 h1 h6 (by simp only [lk, reduceIte, Option.some.injEq, SV.int.injEq, true_and]; omega) ⟨by omega, by simp; omega⟩ (by simp) (txt_more ht hbl (v) hLj) (hn3) (by omega)⟩)
        · have hn3 : comb (d ++ esc v) (normU also (units (s.drop (i + 2 + 1)))) = normU also (units s) := by
            rw [← hn2]; unfold normB; rw [if_neg (by simp [hq])]
          refine callV_sc (sc_escape ht hbl (by omega) v) ?_
          rintro r b' ⟨rfl, x', ht', hbl', -⟩
          simp only [lawG, ↓Xn, ↓Xo, ↓Xg, ↓Xd, ↓Xe, ↓Xf, Tryz.VΓ, Tryz.Γs, Xp, Xi, Nat.reduceAdd, Nat.reduceSub, Nat.reduceLT, Nat.reduceLeDiff, reduceIte, reduceCtorEq, Nat.reduceEqDiff, implies_true, forall_const, lawV, h0, h1, h6, h7]
          exact ⟨⟨by omega, by omega⟩, no_mk (i' := i + 2 + 1) (d := d ++ esc v) h0 h1 h6 (by simp only [lk, reduceIte, Option.some.injEq, SV.int.injEq, true_and]; omega) ⟨by omega, by simp [esc]; omega⟩ (by omega) ht' hn3 (by omega)⟩
    · rw [byte_is (n := 37) hlt 37 rfl] at hc
      rw [if_neg (by simpa using hc)] at hu
      rw [hu, normU] at hn
      rw [hg]
      have hn2 : keepB also s[i] = true → comb (d ++ [s[i]]) (normU also (units (s.drop (i + 1)))) = normU also (units s) := fun hk => by
        rw [← hn, if_pos hk, comb_comb]
      (refine callV_pc (p_IsUnreserved s[i]) ?_; simp only [lawG, ↓Xn, ↓Xo, ↓Xg, ↓Xd, ↓Xe, ↓Xf, Tryz.VΓ, Tryz.Γs, Xp, Xi, Nat.reduceAdd, Nat.reduceSub, Nat.reduceLT, Nat.reduceLeDiff, reduceIte, reduceCtorEq, Nat.reduceEqDiff, implies_true, forall_const, lawV, h0, h1, h6, h7, hg])
      refine ⟨fun hq => ?_, fun hq => ?_⟩
      · (refine callV_pc (p_IndexByte also s[i]) ?_; simp only [lawG, ↓Xn, ↓Xo, ↓Xg, ↓Xd, ↓Xe, ↓Xf, Tryz.VΓ, Tryz.Γs, Xp, Xi, Nat.reduceAdd, Nat.reduceSub, Nat.reduceLT, Nat.reduceLeDiff, reduceIte, reduceCtorEq, Nat.reduceEqDiff, implies_true, forall_const, lawV, h0, h1, h6, h7, hg])
        rw [idx_geq]
        refine ⟨fun hq2 => ?_, fun hq2 => ?_⟩
        · have hk : keepB also s[i] = true := by unfold keepB; rw [hq2]; simp
          (rcases ht.sl with ⟨rfl, hc0, hn0⟩ | ⟨j, rfl, hLj, hj⟩
           · have ho : ∀ X, (b ++ [X])[0]? = some (.cells [.nils] 134 true) := fun X => at_old hbox [X]
             have ho2 : ∀ X Y, (b ++ [X] ++ [Y])[0]? = some (.cells [.nils] 134 true) := fun X Y => at_old (ho X) [Y]
             simp only [lawG, ↓Xn, ↓Xo, ↓Xg, ↓Xd, ↓Xe, ↓Xf, Tryz.VΓ, Tryz.Γs, Xp, Xi, Nat.reduceAdd, Nat.reduceSub, Nat.reduceLT, Nat.reduceLeDiff, reduceIte, reduceCtorEq, Nat.reduceEqDiff, implies_true, forall_const, lawV, h0, h1, h6, h7, hbox, at_new, ho, ho2]
             refine ⟨by omega, ⟨by unfold maxLen; omega, by omega⟩, ⟨by omega, by omega⟩, no_mk (i' := i + 1) (x := .o (b ++ [Res.own [u8S (s[i])] 5 1 1 true]).length 1) (d := d ++ [s[i]]) h0 h1 h6 (by simp only [lk, reduceIte, Option.some.injEq, SV.int.injEq, true_and]; omega) ⟨by omega, by simp; omega⟩ (by simp) (txt_one ht hbl (s[i]) rfl) (hn2 hk) (by omega)⟩
           · have hlj : d.length = d.length := rfl
             have ho : ∀ X, (b ++ [X])[j]? = some (.own (d.map u8S) 5 1 d.length true) := fun X => at_old hj [X]
             have ho2 : ∀ X Y, ((b ++ [X]).set j .gone ++ [Y])[0]? = some (.cells [.o j d.length] 134 true) := fun X Y => by
               rw [List.getElem?_append_left (by simp), List.getElem?_set_ne (by omega)]; exact at_old hbox [X]
             simp only [lawG, ↓Xn, ↓Xo, ↓Xg, ↓Xd, ↓Xe, ↓Xf, Tryz.VΓ, Tryz.Γs, Xp, Xi, Nat.reduceAdd, Nat.reduceSub, Nat.reduceLT, Nat.reduceLeDiff, reduceIte, reduceCtorEq, Nat.reduceEqDiff, implies_true, forall_const, lawV, h0, h1, h6, h7, hbox, at_new, ho, ho2]
             refine ⟨by omega, ⟨by unfold maxLen; omega, by omega⟩, ⟨by omega, by omega⟩, no_mk (i' := i + 1) (x := .o (b ++ [Res.own [u8S (s[i])] 5 1 1 true]).length (d.length + 1)) (d := d ++ [s[i]]) h0 h1 h6 (by simp only [lk, reduceIte, Option.some.injEq, SV.int.injEq, true_and]; omega) ⟨by omega, by simp; omega⟩ (by simp) (txt_more ht hbl (s[i]) hLj) (hn2 hk) (by omega)⟩)
        · have hk : ¬ keepB also s[i] = true := by unfold keepB; rw [hq, hq2]; simp
          rw [if_neg hk] at hn
          have hres : normU also (units s) = ([], 1) := by rw [← hn]; rfl
          rw [hres]
      · have hk : keepB also s[i] = true := by unfold keepB; rw [hq]; simp
        (rcases ht.sl with ⟨rfl, hc0, hn0⟩ | ⟨j, rfl, hLj, hj⟩
         · have ho : ∀ X, (b ++ [X])[0]? = some (.cells [.nils] 134 true) := fun X => at_old hbox [X]
           have ho2 : ∀ X Y, (b ++ [X] ++ [Y])[0]? = some (.cells [.nils] 134 true) := fun X Y => at_old (ho X) [Y]
           simp only [lawG, ↓Xn, ↓Xo, ↓Xg, ↓Xd, ↓Xe, ↓Xf, Tryz.VΓ, Tryz.Γs, Xp, Xi, Nat.reduceAdd, Nat.reduceSub, Nat.reduceLT, Nat.reduceLeDiff, reduceIte, reduceCtorEq, Nat.reduceEqDiff, implies_true, forall_const, lawV, h0, h1, h6, h7, hbox, at_new, ho, ho2]
           refine ⟨by omega, ⟨by unfold maxLen; omega, by omega⟩, ⟨by omega, by omega⟩, no_mk (i' := i + 1) (x := .o (b ++ [Res.own [u8S (s[i])] 5 1 1 true]).length 1) (d := d ++ [s[i]]) h0 h1 h6 (by simp only [lk, reduceIte, Option.some.injEq, SV.int.injEq, true_and]; omega) ⟨by omega, by simp; omega⟩ (by simp) (txt_one ht hbl (s[i]) rfl) (hn2 hk) (by omega)⟩
         · have hlj : d.length = d.length := rfl
           have ho : ∀ X, (b ++ [X])[j]? = some (.own (d.map u8S) 5 1 d.length true) := fun X => at_old hj [X]
           have ho2 : ∀ X Y, ((b ++ [X]).set j .gone ++ [Y])[0]? = some (.cells [.o j d.length] 134 true) := fun X Y => by
             rw [List.getElem?_append_left (by simp), List.getElem?_set_ne (by omega)]; exact at_old hbox [X]
           simp only [lawG, ↓Xn, ↓Xo, ↓Xg, ↓Xd, ↓Xe, ↓Xf, Tryz.VΓ, Tryz.Γs, Xp, Xi, Nat.reduceAdd, Nat.reduceSub, Nat.reduceLT, Nat.reduceLeDiff, reduceIte, reduceCtorEq, Nat.reduceEqDiff, implies_true, forall_const, lawV, h0, h1, h6, h7, hbox, at_new, ho, ho2]
           refine ⟨by omega, ⟨by unfold maxLen; omega, by omega⟩, ⟨by omega, by omega⟩, no_mk (i' := i + 1) (x := .o (b ++ [Res.own [u8S (s[i])] 5 1 1 true]).length (d.length + 1)) (d := d ++ [s[i]]) h0 h1 h6 (by simp only [lk, reduceIte, Option.some.injEq, SV.int.injEq, true_and]; omega) ⟨by omega, by simp; omega⟩ (by simp) (txt_more ht hbl (s[i]) hLj) (hn2 hk) (by omega)⟩)
  · have hie : i = s.length := by omega
    subst hie
    rw [List.drop_length, units_nil] at hn
    have hres : normU also (units s) = (d, 0) := by rw [← hn]; simp [normU, comb]
    rw [hres]
    rcases ht.sl with ⟨rfl, hc0, hn0⟩ | ⟨j, rfl, hLj, hj⟩
    · obtain rfl : d = [] := by simpa using hc0
      simp only [lawG, ↓Xn, ↓Xo, ↓Xg, ↓Xd, ↓Xe, ↓Xf, Tryz.VΓ, Tryz.Γs, Xp, Xi, Nat.reduceAdd, Nat.reduceSub, Nat.reduceLT, Nat.reduceLeDiff, reduceIte, reduceCtorEq, Nat.reduceEqDiff, implies_true, forall_const, lawV, h0, h1, h6, h7, hbox]
      exact fun h => (by simp at h)
    · simp only [lawG, ↓Xn, ↓Xo, ↓Xg, ↓Xd, ↓Xe, ↓Xf, Tryz.VΓ, Tryz.Γs, Xp, Xi, Nat.reduceAdd, Nat.reduceSub, Nat.reduceLT, Nat.reduceLeDiff, reduceIte, reduceCtorEq, Nat.reduceEqDiff, implies_true, forall_const, lawV, h0, h1, h6, h7, hbox, hj]
      refine ⟨fun h => absurd h (by simp), fun _ => ⟨isU8_map d, ?_⟩⟩
      rw [unU8_map]
end Go.Proofs.YtcndmooeglfilaaGreatDoor
/- The walks of package uri: schemes. -/
set_option linter.all false
namespace Go.Proofs.YtcndmooeglfilaaGreatDoor
open Go.RowKit Wf
attribute [local go_sem] ex_list app_list get_list
theorem scheme_one {s : Bytes} (h : 0 < s.length) (ha : isAlpha s[0] = true) : schemeOk (s.take 1) = true := by
  cases s with
  | nil => simp at h
  | cons c r => simp at ha; simp [schemeOk, ha]
theorem scheme_one_no {s : Bytes} (h : 0 < s.length) (ha : isAlpha s[0] = false) : schemeOk s = false := by
  cases s with
  | nil => simp at h
  | cons c r => simp at ha; simp [schemeOk, ha]
theorem scheme_snoc {s : Bytes} {k : Nat} (h0 : 0 < k) (h : k < s.length) (ht : schemeOk (s.take k) = true) (hc : schemeC s[k] = true) : schemeOk (s.take (k + 1)) = true := by
  cases s with
  | nil => simp at h
  | cons c r =>
    obtain ⟨j, rfl⟩ : ∃ j, k = j + 1 := ⟨k - 1, by omega⟩
    rw [List.take_succ_cons] at ht ⊢
    unfold schemeOk at ht ⊢
    simp only [Bool.and_eq_true] at ht ⊢
    exact ⟨ht.1, all_take_snoc (by simpa using h) ht.2 (by simpa using hc)⟩
theorem scheme_no {s : Bytes} {k : Nat} (h0 : 0 < k) (h : k < s.length) (hc : schemeC s[k] = false) : schemeOk s = false := by
  cases s with
  | nil => simp at h
  | cons c r =>
    obtain ⟨j, rfl⟩ : ∃ j, k = j + 1 := ⟨k - 1, by omega⟩
    have := all_not (p := schemeC) (s := r) (k := j) (by simpa using h) (by simpa using hc)
    show (isAlpha c && r.all schemeC) = false
    rw [this]; simp
theorem plus_idx (c : UInt8) : ([43, 45, 46].contains c = true → 0 ≤ Lib.indexByte [43, 45, 46] c) ∧ ([43, 45, 46].contains c = false → Lib.indexByte [43, 45, 46] c = -1) := by
  have h := all256 (p := fun c => decide (([43, 45, 46].contains c = true → 0 ≤ Lib.indexByte [43, 45, 46] c) ∧ ([43, 45, 46].contains c = false → Lib.indexByte [43, 45, 46] c = -1))) (by decide +kernel) c
  exact of_decide_eq_true h
set_option maxHeartbeats 1000000 in
theorem uri_scheme (s : Bytes) (w : World) (hs : s.length ≤ 9223372036854775807) :
    Calls Tryz.prog 155 #[(Value.string ⟨List.toArray (s)⟩)] w fun e w' => e = .returned (.bool (schemeOk s)) ∧ w = w' := by
  go_enter Tryz.func155, Tryz.ntmps155
  go_wp2_with fail
  go_loop [6] (fun i => ∃ k : Nat, k ≤ s.length ∧ i = .int .i64 k ∧ (k = 0 ∨ schemeOk (s.take k) = true)) (fun i => s.length - (intOf i).toNat)
  case atStart => exact ⟨0, by omega, rfl, .inl rfl⟩
  case round =>
    obtain ⟨k, hk, rfl, hr⟩ := hrel
    have Hr := hid hr
    clear hr
    by_cases hlt : k < s.length
    · cases ha : isAlpha s[k]
      · by_cases h0 : k = 0
        · subst h0
          have Hq := hid (scheme_one_no hlt ha)
          go_wp2_with (first
            | (go_at_call 185; refine (ascii_IsAlpha _ _).mono ?_; rintro e w' ⟨rfl, rfl⟩)
            | (go_at_call 144; refine (ascii_IsDigit _ _).mono ?_; rintro e w' ⟨rfl, rfl⟩)
            | (go_at_call 141; refine (s_IndexByte [43, 45, 46] _ _).mono ?_; rintro e w' ⟨rfl, rfl⟩))
          go_ret
          exact ⟨ret_bool Hq.out.symm, rfl⟩
        · have hk0 : ((k : Int) == 0) = false := by simp [h0]
          have Hr2 := hid (Hr.out.resolve_left h0)
          obtain ⟨p1, p2⟩ := plus_idx s[k]
          cases hd : isDigit s[k]
          · cases hp : [43, 45, 46].contains s[k]
            · have p3 := p2 hp
              have Hq := hid (scheme_no (by omega) hlt (by unfold schemeC; rw [ha, hd, hp]; rfl))
              clear p1 p2 hp
              go_wp2_with (first
                | (go_at_call 185; refine (ascii_IsAlpha _ _).mono ?_; rintro e w' ⟨rfl, rfl⟩)
                | (go_at_call 144; refine (ascii_IsDigit _ _).mono ?_; rintro e w' ⟨rfl, rfl⟩)
                | (go_at_call 141; refine (s_IndexByte [43, 45, 46] _ _).mono ?_; rintro e w' ⟨rfl, rfl⟩))
              go_ret
              exact ⟨ret_bool Hq.out.symm, rfl⟩
            · have p3 := p1 hp
              have Hn := hid (scheme_snoc (by omega) hlt Hr2.out (by unfold schemeC; rw [hp]; simp))
              clear p1 p2 hp
              go_wp2_with (first
                | (go_at_call 185; refine (ascii_IsAlpha _ _).mono ?_; rintro e w' ⟨rfl, rfl⟩)
                | (go_at_call 144; refine (ascii_IsDigit _ _).mono ?_; rintro e w' ⟨rfl, rfl⟩)
                | (go_at_call 141; refine (s_IndexByte [43, 45, 46] _ _).mono ?_; rintro e w' ⟨rfl, rfl⟩))
              go_round
              case rel => exact ⟨k + 1, by omega, by go_num, .inr Hn.out⟩
              case measure => simp [intOf]; omega
          · have Hn := hid (scheme_snoc (by omega) hlt Hr2.out (by unfold schemeC; rw [hd]; simp))
            clear p1 p2
            go_wp2_with (first
              | (go_at_call 185; refine (ascii_IsAlpha _ _).mono ?_; rintro e w' ⟨rfl, rfl⟩)
              | (go_at_call 144; refine (ascii_IsDigit _ _).mono ?_; rintro e w' ⟨rfl, rfl⟩)
              | (go_at_call 141; refine (s_IndexByte [43, 45, 46] _ _).mono ?_; rintro e w' ⟨rfl, rfl⟩))
            go_round
            case rel => exact ⟨k + 1, by omega, by go_num, .inr Hn.out⟩
            case measure => simp [intOf]; omega
      · have Hn : Hid (schemeOk (s.take (k + 1)) = true) := hid (by
          rcases Hr.out with rfl | hr
          · exact scheme_one hlt ha
          · by_cases h0 : k = 0
            · subst h0; exact scheme_one hlt ha
            · exact scheme_snoc (by omega) hlt hr (by unfold schemeC; rw [ha]; rfl))
        go_wp2_with (first
          | (go_at_call 185; refine (ascii_IsAlpha _ _).mono ?_; rintro e w' ⟨rfl, rfl⟩)
          | (go_at_call 144; refine (ascii_IsDigit _ _).mono ?_; rintro e w' ⟨rfl, rfl⟩)
          | (go_at_call 141; refine (s_IndexByte [43, 45, 46] _ _).mono ?_; rintro e w' ⟨rfl, rfl⟩))
        go_round
        case rel => exact ⟨k + 1, by omega, by go_num, .inr Hn.out⟩
        case measure => simp [intOf]; omega
    · cases hem : s.isEmpty
      · have Hq : Hid (schemeOk s = true) := hid (by
          rcases Hr.out with rfl | hr
          · cases s <;> simp at hem hlt
          · rw [List.take_of_length_le (by omega)] at hr; exact hr)
        go_wp2_with fail
        go_ret
        exact ⟨ret_bool Hq.out.symm, rfl⟩
      · have Hq : Hid (schemeOk s = false) := hid (by cases s <;> simp at hem <;> rfl)
        go_wp2_with fail
        go_ret
        exact ⟨ret_bool Hq.out.symm, rfl⟩
end Go.Proofs.YtcndmooeglfilaaGreatDoor
/- The walks of package uri. -/
set_option linter.all false
set_option maxRecDepth 20000
namespace Go.Proofs.YtcndmooeglfilaaGreatDoor
open Go Vc Go.RowKit Wf
set_option linter.unusedSimpArgs false
def usv (u : Uri) : SV := .agg [.str u.scheme, .str u.authority, .str u.path, .str u.query, .str u.fragment, .bool u.hasScheme, .bool u.hasAuthority, .bool u.hasQuery, .bool u.hasFrag]
theorem shorten_take (s : Bytes) : shorten s = s.take (lastSlash s - 1) := by
  unfold shorten lastSlash
  have h := List.suffix_iff_eq_drop.1 (List.dropWhile_suffix (l := s.reverse) (· != 47))
  have hle := (List.dropWhile_suffix (l := s.reverse) (· != 47)).length_le
  generalize (s.reverse.dropWhile (· != 47)) = d at h hle
  rw [List.length_reverse] at hle
  rw [h, List.drop_drop, List.reverse_drop, List.reverse_reverse, List.length_reverse]
  congr 1
  simp
  omega
theorem lastB_slash (s : Bytes) : lastB s 47 = (lastSlash s : Int) - 1 := lastB_eq s 47
theorem lastSlash_le (s : Bytes) : lastSlash s ≤ s.length := by
  have := (List.dropWhile_suffix (l := s.reverse) (· != 47)).length_le
  rw [List.length_reverse] at this
  exact this
theorem lastB_shorten (s : Bytes) : s.take (max 0 (lastB s 47)).toNat = shorten s := by
  rw [shorten_take, lastB_slash]
  congr 1
  omega
theorem lastB_le (s : Bytes) : lastB s 47 ≤ s.length := by
  have := lastSlash_le s
  rw [lastB_slash]
  omega
theorem p_uri_scheme (s : Bytes) (hs : s.length ≤ 9223372036854775807) : PC Tryz.V 155 [.str s] (.bool (schemeOk s)) :=
  ⟨Tryz.call155, by simp [flat, flat.flatL], by simp [flat, flat.flatL], fun w _ => (uri_scheme s w hs).mono fun _ _ ⟨h, k⟩ => ⟨h, below_same k⟩⟩
theorem authPath_no {s : Bytes} (h : Lib.hasPrefix s [47, 47] = false) : authPath s = ([], false, s) := by
  unfold authPath
  split
  · simp [Lib.hasPrefix] at h
  · rfl
theorem authPath_yes {s : Bytes} (h : Lib.hasPrefix s [47, 47] = true) : authPath s = ((Lib.trimPrefix s [47, 47]).take (pre (· == 47) (Lib.trimPrefix s [47, 47])), true, (Lib.trimPrefix s [47, 47]).drop (pre (· == 47) (Lib.trimPrefix s [47, 47]))) := by
  obtain ⟨r, rfl⟩ := List.isPrefixOf_iff_prefix.1 h
  have ht : Lib.trimPrefix ([47, 47] ++ r) [47, 47] = r := by simp [Lib.trimPrefix, Lib.hasPrefix]
  rw [ht]
  rfl
set_option maxHeartbeats 2000000 in
theorem p_uri_Split (s : Bytes) : PC Tryz.V 116 [.str s] (.tup [usv (uriSplit s).1, .int .i64 (uriSplit s).2]) := by
  refine pc_of 3000 Tryz.func116 rfl Tryz.ntmps116 Tryz.results116 Tryz.call116 (by simp) (by simp [flat, flat.flatL]) (by simp [flat, flat.flatL, usv]) ?_
  simp only [lawG, ↓Xn, ↓Xo, ↓Xg, ↓Xd, ↓Xe, ↓Xf, Tryz.VΓ, Tryz.Γs, Xp, Xi, Nat.reduceAdd, Nat.reduceSub, Nat.reduceLT, Nat.reduceLeDiff, reduceIte, reduceCtorEq, Nat.reduceEqDiff, implies_true, forall_const, lawV]
  refine ⟨fun h => ?_, fun h => ?_⟩
  · have : uriSplit s = (Uri.none, 5) := if_pos (by simp at h; omega)
    rw [this]; rfl
  · have hl : s.length < 4294967281 := by simp at h; omega
    have hq : uriSplit s = splitRest (cutC 63 (cutC 35 s).1).1 (cutC 35 s).2.1 (cutC 63 (cutC 35 s).1).2.1 (cutC 35 s).2.2 (cutC 63 (cutC 35 s).1).2.2 := if_neg (by simp at h; omega)
    rw [hq]
    have l1 := cutC_len 35 s
    have l2 := cutC_len 63 (cutC 35 s).1
    (refine callV_pc (p_Cut s 35 hl) ?_; simp only [lawG, ↓Xn, ↓Xo, ↓Xg, ↓Xd, ↓Xe, ↓Xf, Tryz.VΓ, Tryz.Γs, Xp, Xi, Nat.reduceAdd, Nat.reduceSub, Nat.reduceLT, Nat.reduceLeDiff, reduceIte, reduceCtorEq, Nat.reduceEqDiff, implies_true, forall_const, lawV])
    (refine callV_pc (p_Cut _ 63 (by omega)) ?_; simp only [lawG, ↓Xn, ↓Xo, ↓Xg, ↓Xd, ↓Xe, ↓Xf, Tryz.VΓ, Tryz.Γs, Xp, Xi, Nat.reduceAdd, Nat.reduceSub, Nat.reduceLT, Nat.reduceLeDiff, reduceIte, reduceCtorEq, Nat.reduceEqDiff, implies_true, forall_const, lawV])
    generalize cutC 63 (cutC 35 s).1 = C2 at l2 ⊢
    generalize cutC 35 s = C1 at l1 l2 ⊢
    obtain ⟨s1, fr, hf⟩ := C1
    obtain ⟨s2, qu, hqu⟩ := C2
    simp only at l1 l2 ⊢
    have hix : Lib.indexAny s2 [58, 47] = if pre colonSlash s2 < s2.length then (pre colonSlash s2 : Int) else -1 := indexAny_pre s2 [58, 47]
    have p3 := p_IndexAny s2 [58, 47] (by decide) (by decide) (by decide) (by omega)
    -- the end: the authority and the path
    by_cases hp : pre colonSlash s2 < s2.length
    · rw [if_pos hp] at hix
      rw [hix] at p3
      (refine callV_pc (p3) ?_; simp only [lawG, ↓Xn, ↓Xo, ↓Xg, ↓Xd, ↓Xe, ↓Xf, Tryz.VΓ, Tryz.Γs, Xp, Xi, Nat.reduceAdd, Nat.reduceSub, Nat.reduceLT, Nat.reduceLeDiff, reduceIte, reduceCtorEq, Nat.reduceEqDiff, implies_true, forall_const, lawV])
      refine ⟨fun _ => ⟨⟨by omega, by omega⟩, fun h1 => ⟨⟨by omega, by omega⟩, ?_⟩, fun h1 => ?_⟩, fun h1 => ?_⟩
      · have hh : (s2.drop (pre colonSlash s2)).head? = some 58 := by
          rw [List.head?_drop, List.getElem?_eq_getElem hp]
          rw [byte_is (n := 58) hp 58 rfl] at h1
          rw [beq_iff_eq.1 h1]
        (refine callV_pc (p_uri_scheme _ (by simp; omega)) ?_; simp only [lawG, ↓Xn, ↓Xo, ↓Xg, ↓Xd, ↓Xe, ↓Xf, Tryz.VΓ, Tryz.Γs, Xp, Xi, Nat.reduceAdd, Nat.reduceSub, Nat.reduceLT, Nat.reduceLeDiff, reduceIte, reduceCtorEq, Nat.reduceEqDiff, implies_true, forall_const, lawV])
        refine ⟨fun h2 => ?_, fun h2 => ⟨⟨by omega, by omega⟩, ⟨by omega, by omega⟩, ⟨by omega, by omega⟩, (OkD_fast (by kernel_rfl)), ?_⟩⟩
        · have : splitRest s2 fr qu hf hqu = (Uri.none, 6) := by
            unfold splitRest
            rw [if_pos hh, if_neg (by simpa using h2)]
          rw [this]; rfl
        · have hs : splitRest s2 fr qu hf hqu = (⟨s2.take (pre colonSlash s2), (authPath (s2.drop (pre colonSlash s2 + 1))).1, (authPath (s2.drop (pre colonSlash s2 + 1))).2.2, qu, fr, true, (authPath (s2.drop (pre colonSlash s2 + 1))).2.1, hqu, hf⟩, 0) := by
            unfold splitRest
            rw [if_pos hh, if_pos (by simpa using h2)]
          have hl5 : (s2.drop (pre colonSlash s2 + 1)).length ≤ s2.length := by simp
          (
            (refine callV_pc (p_CutPrefix (s2.drop (pre colonSlash s2 + 1)) [47, 47]) ?_; simp only [lawG, ↓Xn, ↓Xo, ↓Xg, ↓Xd, ↓Xe, ↓Xf, Tryz.VΓ, Tryz.Γs, Xp, Xi, Nat.reduceAdd, Nat.reduceSub, Nat.reduceLT, Nat.reduceLeDiff, reduceIte, reduceCtorEq, Nat.reduceEqDiff, implies_true, forall_const, lawV])
            cases hpf : Lib.hasPrefix (s2.drop (pre colonSlash s2 + 1)) [47, 47]
            · refine ⟨fun h => (by cases h), fun _ => ?_⟩
              have ht : Lib.trimPrefix (s2.drop (pre colonSlash s2 + 1)) [47, 47] = s2.drop (pre colonSlash s2 + 1) := by unfold Lib.trimPrefix; rw [hpf]; rfl
              rw [hs, authPath_no hpf]; rfl
            · refine ⟨fun _ => ?_, fun h => (by cases h)⟩
              have hl3 := trim_len (s2.drop (pre colonSlash s2 + 1)) [47, 47]
              have hap := authPath_yes hpf
              rw [hs, hap]
              generalize Lib.trimPrefix (s2.drop (pre colonSlash s2 + 1)) [47, 47] = rest at hl3 hap ⊢
              have hib := indexByte_pre rest 47
              have p4 := p_IndexByte rest 47
              rw [hib] at p4
              have hpl := pre_le (· == 47) rest
              by_cases hr : pre (· == 47) rest < rest.length
              · rw [if_pos hr] at p4
                (refine callV_pc (p4) ?_; simp only [lawG, ↓Xn, ↓Xo, ↓Xg, ↓Xd, ↓Xe, ↓Xf, Tryz.VΓ, Tryz.Γs, Xp, Xi, Nat.reduceAdd, Nat.reduceSub, Nat.reduceLT, Nat.reduceLeDiff, reduceIte, reduceCtorEq, Nat.reduceEqDiff, implies_true, forall_const, lawV])
                refine ⟨fun h => ?_, fun _ => ⟨⟨by omega, by omega⟩, ⟨by omega, by omega⟩, (OkD_fast (by kernel_rfl)), rfl⟩⟩
                simp at h; omega
              · rw [if_neg hr] at p4
                (refine callV_pc (p4) ?_; simp only [lawG, ↓Xn, ↓Xo, ↓Xg, ↓Xd, ↓Xe, ↓Xf, Tryz.VΓ, Tryz.Γs, Xp, Xi, Nat.reduceAdd, Nat.reduceSub, Nat.reduceLT, Nat.reduceLeDiff, reduceIte, reduceCtorEq, Nat.reduceEqDiff, implies_true, forall_const, lawV])
                refine ⟨fun _ => ⟨⟨by omega, by omega⟩, ⟨by omega, by omega⟩, (OkD_fast (by kernel_rfl)), ?_⟩, fun h => ?_⟩
                · have : pre (· == 47) rest = rest.length := by omega
                  rw [this]; simp [usv]
                · simp at h)
      · have hs : splitRest s2 fr qu hf hqu = (⟨[], (authPath s2).1, (authPath s2).2.2, qu, fr, false, (authPath s2).2.1, hqu, hf⟩, 0) := by
          unfold splitRest
          rw [if_neg]
          rw [byte_is (n := 58) hp 58 rfl] at h1
          rw [List.head?_drop, List.getElem?_eq_getElem hp]
          simpa using h1
        (
          (refine callV_pc (p_CutPrefix (s2) [47, 47]) ?_; simp only [lawG, ↓Xn, ↓Xo, ↓Xg, ↓Xd, ↓Xe, ↓Xf, Tryz.VΓ, Tryz.Γs, Xp, Xi, Nat.reduceAdd, Nat.reduceSub, Nat.reduceLT, Nat.reduceLeDiff, reduceIte, reduceCtorEq, Nat.reduceEqDiff, implies_true, forall_const, lawV])
          cases hpf : Lib.hasPrefix (s2) [47, 47]
          · refine ⟨fun h => (by cases h), fun _ => ?_⟩
            have ht : Lib.trimPrefix (s2) [47, 47] = s2 := by unfold Lib.trimPrefix; rw [hpf]; rfl
            rw [hs, authPath_no hpf]; rfl
          · refine ⟨fun _ => ?_, fun h => (by cases h)⟩
            have hl3 := trim_len (s2) [47, 47]
            have hap := authPath_yes hpf
            rw [hs, hap]
            generalize Lib.trimPrefix (s2) [47, 47] = rest at hl3 hap ⊢
            have hib := indexByte_pre rest 47
            have p4 := p_IndexByte rest 47
            rw [hib] at p4
            have hpl := pre_le (· == 47) rest
            by_cases hr : pre (· == 47) rest < rest.length
            · rw [if_pos hr] at p4
              (refine callV_pc (p4) ?_; simp only [lawG, ↓Xn, ↓Xo, ↓Xg, ↓Xd, ↓Xe, ↓Xf, Tryz.VΓ, Tryz.Γs, Xp, Xi, Nat.reduceAdd, Nat.reduceSub, Nat.reduceLT, Nat.reduceLeDiff, reduceIte, reduceCtorEq, Nat.reduceEqDiff, implies_true, forall_const, lawV])
              refine ⟨fun h => ?_, fun _ => ⟨⟨by omega, by omega⟩, ⟨by omega, by omega⟩, (OkD_fast (by kernel_rfl)), rfl⟩⟩
              simp at h; omega
            · rw [if_neg hr] at p4
              (refine callV_pc (p4) ?_; simp only [lawG, ↓Xn, ↓Xo, ↓Xg, ↓Xd, ↓Xe, ↓Xf, Tryz.VΓ, Tryz.Γs, Xp, Xi, Nat.reduceAdd, Nat.reduceSub, Nat.reduceLT, Nat.reduceLeDiff, reduceIte, reduceCtorEq, Nat.reduceEqDiff, implies_true, forall_const, lawV])
              refine ⟨fun _ => ⟨⟨by omega, by omega⟩, ⟨by omega, by omega⟩, (OkD_fast (by kernel_rfl)), ?_⟩, fun h => ?_⟩
              · have : pre (· == 47) rest = rest.length := by omega
                rw [this]; simp [usv]
              · simp at h)
      · simp at h1
    · rw [if_neg hp] at hix
      rw [hix] at p3
      (refine callV_pc (p3) ?_; simp only [lawG, ↓Xn, ↓Xo, ↓Xg, ↓Xd, ↓Xe, ↓Xf, Tryz.VΓ, Tryz.Γs, Xp, Xi, Nat.reduceAdd, Nat.reduceSub, Nat.reduceLT, Nat.reduceLeDiff, reduceIte, reduceCtorEq, Nat.reduceEqDiff, implies_true, forall_const, lawV])
      refine ⟨fun h1 => ?_, fun h1 => ?_⟩
      · simp at h1
      · have hs : splitRest s2 fr qu hf hqu = (⟨[], (authPath s2).1, (authPath s2).2.2, qu, fr, false, (authPath s2).2.1, hqu, hf⟩, 0) := by
          unfold splitRest
          rw [if_neg]
          rw [List.drop_of_length_le (by omega)]; simp
        (
          (refine callV_pc (p_CutPrefix (s2) [47, 47]) ?_; simp only [lawG, ↓Xn, ↓Xo, ↓Xg, ↓Xd, ↓Xe, ↓Xf, Tryz.VΓ, Tryz.Γs, Xp, Xi, Nat.reduceAdd, Nat.reduceSub, Nat.reduceLT, Nat.reduceLeDiff, reduceIte, reduceCtorEq, Nat.reduceEqDiff, implies_true, forall_const, lawV])
          cases hpf : Lib.hasPrefix (s2) [47, 47]
          · refine ⟨fun h => (by cases h), fun _ => ?_⟩
            have ht : Lib.trimPrefix (s2) [47, 47] = s2 := by unfold Lib.trimPrefix; rw [hpf]; rfl
            rw [hs, authPath_no hpf]; rfl
          · refine ⟨fun _ => ?_, fun h => (by cases h)⟩
            have hl3 := trim_len (s2) [47, 47]
            have hap := authPath_yes hpf
            rw [hs, hap]
            generalize Lib.trimPrefix (s2) [47, 47] = rest at hl3 hap ⊢
            have hib := indexByte_pre rest 47
            have p4 := p_IndexByte rest 47
            rw [hib] at p4
            have hpl := pre_le (· == 47) rest
            by_cases hr : pre (· == 47) rest < rest.length
            · rw [if_pos hr] at p4
              (refine callV_pc (p4) ?_; simp only [lawG, ↓Xn, ↓Xo, ↓Xg, ↓Xd, ↓Xe, ↓Xf, Tryz.VΓ, Tryz.Γs, Xp, Xi, Nat.reduceAdd, Nat.reduceSub, Nat.reduceLT, Nat.reduceLeDiff, reduceIte, reduceCtorEq, Nat.reduceEqDiff, implies_true, forall_const, lawV])
              refine ⟨fun h => ?_, fun _ => ⟨⟨by omega, by omega⟩, ⟨by omega, by omega⟩, (OkD_fast (by kernel_rfl)), rfl⟩⟩
              simp at h; omega
            · rw [if_neg hr] at p4
              (refine callV_pc (p4) ?_; simp only [lawG, ↓Xn, ↓Xo, ↓Xg, ↓Xd, ↓Xe, ↓Xf, Tryz.VΓ, Tryz.Γs, Xp, Xi, Nat.reduceAdd, Nat.reduceSub, Nat.reduceLT, Nat.reduceLeDiff, reduceIte, reduceCtorEq, Nat.reduceEqDiff, implies_true, forall_const, lawV])
              refine ⟨fun _ => ⟨⟨by omega, by omega⟩, ⟨by omega, by omega⟩, (OkD_fast (by kernel_rfl)), ?_⟩, fun h => ?_⟩
              · have : pre (· == 47) rest = rest.length := by omega
                rw [this]; simp [usv]
              · simp at h)
def RdI (s : Bytes) (σ : St) : Prop := ∃ (p o : Bytes) (j f : Nat), lk 0 σ.t = some (.str p) ∧ lk 3 σ.t = some (.o j o.length) ∧ σ.b[j]? = some (.own (o.map u8S) 5 1 o.length true) ∧ p.length + o.length ≤ s.length ∧ p.length ≤ f ∧ dotsGo f p o = removeDots s
def RdM (σ : St) : Nat := match lk 0 σ.t with
  | some (.str p) => p.length
  | _ => 0
theorem RdM_eq {σ : St} {p : Bytes} (h : lk 0 σ.t = some (.str p)) : RdM σ = p.length := by simp [RdM, h]
theorem rd_done {s p' o' : Bytes} {j f n : Nat} {t : List (Nat × SV)} {b : List Res} (h0 : lk 0 t = some (.str p')) (h3 : lk 3 t = some (.o j o'.length)) (hj : b[j]? = some (.own (o'.map u8S) 5 1 o'.length true)) (hlen : p'.length + o'.length ≤ s.length) (hf : p'.length ≤ f) (hgo : dotsGo f p' o' = removeDots s) (hlt : p'.length < n) :
    RdI s ⟨t, b⟩ ∧ RdM ⟨t, b⟩ < n := ⟨⟨p', o', j, f, h0, h3, hj, hlen, hf, hgo⟩, by rw [RdM_eq h0]; exact hlt⟩
theorem rd_cut (o : Bytes) : ∃ X : Int, (if 0 < lastB o 47 then lastB o 47 else 0) = X ∧ 0 ≤ X ∧ X ≤ o.length ∧ o.take X.toNat = shorten o := by
  refine ⟨_, rfl, by split <;> omega, ?_, ?_⟩
  · have := lastB_le o; split <;> omega
  · rw [← lastB_shorten o]
    congr 2
    split <;> omega
theorem rd_len {o : Bytes} {X : Int} (h : X ≤ o.length) : (o.take X.toNat).length = X.toNat := by rw [List.length_take]; omega
theorem rd_at {b : List Res} {j : Nat} {o : Bytes} {X : Int} (h : X ≤ o.length) : (b.set j .gone ++ [.own ((o.map u8S).take (X.toNat * 1)) 5 1 X.toNat true])[b.length]? = some (.own ((o.take X.toNat).map u8S) 5 1 (o.take X.toNat).length true) := by
  rw [List.getElem?_append_right (by simp), rd_len h]
  simp [List.map_take]
theorem rd_at2 (b : List Res) (j : Nat) (o y : Bytes) : (b.set j .gone ++ [.own (o.map u8S ++ y.map u8S) 5 1 (o.length + y.length) true])[b.length]? = some (.own ((o ++ y).map u8S) 5 1 (o ++ y).length true) := by
  rw [List.getElem?_append_right (by simp)]
  simp
set_option maxHeartbeats 2000000 in
theorem p_uri_RemoveDots (s : Bytes) (hs : s.length ≤ 4294967281) : PC Tryz.V 156 [.str s] (.str (removeDots s)) := by
  refine pc_of 3000 Tryz.func156 rfl Tryz.ntmps156 Tryz.results156 Tryz.call156 (by simp) (by simp [flat, flat.flatL]) (by simp [flat, flat.flatL]) ?_
  simp only [lawG, ↓Xn, ↓Xo, ↓Xg, ↓Xd, ↓Xe, ↓Xf, Tryz.VΓ, Tryz.Γs, Xp, Xi, Nat.reduceAdd, Nat.reduceSub, Nat.reduceLT, Nat.reduceLeDiff, reduceIte, reduceCtorEq, Nat.reduceEqDiff, implies_true, forall_const, lawV]
  refine ⟨by omega, loopV_mk (RdI s) RdM ⟨s, [], 0, s.length, rfl, rfl, rfl, by simp, Nat.le_refl _, rfl⟩ ?_⟩
  rintro ⟨t, b⟩ ⟨p, o, j, f, h0, h3, hj, hlen, hf, hgo⟩
  simp only at h0 h3 hj
  rw [RdM_eq h0]
  simp only [lawG, ↓Xn, ↓Xo, ↓Xg, ↓Xd, ↓Xe, ↓Xf, Tryz.VΓ, Tryz.Γs, Xp, Xi, Nat.reduceAdd, Nat.reduceSub, Nat.reduceLT, Nat.reduceLeDiff, reduceIte, reduceCtorEq, Nat.reduceEqDiff, implies_true, forall_const, lawV, h0, h3, hj]
  have hend : p = [] → o = removeDots s := fun hp => by subst hp; cases f <;> simpa [dotsGo] using hgo
  refine ⟨fun hp => ?_, fun hp => ⟨isU8_map o, ?_⟩⟩
  rotate_left
  · rw [unU8_map, hend (by simpa using hp)]
  replace hp : p ≠ [] := by simpa using hp
  have hpl : 0 < p.length := List.length_pos_iff.2 hp
  obtain ⟨f, rfl⟩ : ∃ f', f = f' + 1 := ⟨f - 1, by omega⟩
  rw [dotsGo, if_neg hp] at hgo
  (refine callV_pc (p_HasPrefix p [46, 46, 47]) ?_
   simp only [lawG, ↓Xn, ↓Xo, ↓Xg, ↓Xd, ↓Xe, ↓Xf, Tryz.VΓ, Tryz.Γs, Xp, Xi, Nat.reduceAdd, Nat.reduceSub, Nat.reduceLT, Nat.reduceLeDiff, reduceIte, reduceCtorEq, Nat.reduceEqDiff, implies_true, forall_const, lawV, h0, h3, hj])
  refine ⟨fun c1 => ?_, fun c1 => ?_⟩
  · have h := hp_len c1
    rw [show dotStep p o = (p.drop 3, o) from if_pos c1] at hgo
    exact ⟨⟨by omega, by simp at h; omega⟩, rd_done rfl h3 hj (by simp; omega) (by simp at h ⊢; omega) hgo (by simp at h ⊢; omega)⟩
  (refine callV_pc (p_HasPrefix p [46, 47]) ?_
   simp only [lawG, ↓Xn, ↓Xo, ↓Xg, ↓Xd, ↓Xe, ↓Xf, Tryz.VΓ, Tryz.Γs, Xp, Xi, Nat.reduceAdd, Nat.reduceSub, Nat.reduceLT, Nat.reduceLeDiff, reduceIte, reduceCtorEq, Nat.reduceEqDiff, implies_true, forall_const, lawV, h0, h3, hj])
  refine ⟨fun c2 => ?_, fun c2 => ?_⟩
  · have h := hp_len c2
    rw [show dotStep p o = (p.drop 2, o) by unfold dotStep; rw [if_neg (hp_no c1)]; exact if_pos c2] at hgo
    exact ⟨⟨by omega, by simp at h; omega⟩, rd_done rfl h3 hj (by simp; omega) (by simp at h ⊢; omega) hgo (by simp at h ⊢; omega)⟩
  (refine callV_pc (p_HasPrefix p [47, 46, 47]) ?_
   simp only [lawG, ↓Xn, ↓Xo, ↓Xg, ↓Xd, ↓Xe, ↓Xf, Tryz.VΓ, Tryz.Γs, Xp, Xi, Nat.reduceAdd, Nat.reduceSub, Nat.reduceLT, Nat.reduceLeDiff, reduceIte, reduceCtorEq, Nat.reduceEqDiff, implies_true, forall_const, lawV, h0, h3, hj])
  refine ⟨fun c3 => ?_, fun c3 => ?_⟩
  · have h := hp_len c3
    rw [show dotStep p o = (p.drop 2, o) by unfold dotStep; rw [if_neg (hp_no c1), if_neg (hp_no c2)]; exact if_pos c3] at hgo
    exact ⟨⟨by omega, by simp at h; omega⟩, rd_done rfl h3 hj (by simp; omega) (by simp at h ⊢; omega) hgo (by simp at h ⊢; omega)⟩
  refine ⟨fun c4 => ?_, fun c4 => ?_⟩
  · have h : p = [47, 46] := by simpa using c4
    subst h
    exact rd_done (p' := [47]) rfl h3 hj (by simp at hlen ⊢; omega) (by simp at hf ⊢; omega) hgo (by simp)
  have n4 : ¬ p = [47, 46] := by simpa using c4
  have hdot : dotStep p o = if [47, 46, 46, 47].isPrefixOf p then (p.drop 3, shorten o)
      else if p = [47, 46, 46] then ([47], shorten o)
      else if p = [46] ∨ p = [46, 46] then ([], o)
      else (p.drop (1 + pre (· == 47) (p.drop 1)), o ++ p.take (1 + pre (· == 47) (p.drop 1))) := by
    unfold dotStep; rw [if_neg (hp_no c1), if_neg (hp_no c2), if_neg (hp_no c3), if_neg n4]
  rw [hdot] at hgo
  (refine callV_pc (p_HasPrefix p [47, 46, 46, 47]) ?_
   simp only [lawG, ↓Xn, ↓Xo, ↓Xg, ↓Xd, ↓Xe, ↓Xf, Tryz.VΓ, Tryz.Γs, Xp, Xi, Nat.reduceAdd, Nat.reduceSub, Nat.reduceLT, Nat.reduceLeDiff, reduceIte, reduceCtorEq, Nat.reduceEqDiff, implies_true, forall_const, lawV, h0, h3, hj])
  refine ⟨fun c5 => ⟨fun c6 => ?_, fun c6 => ⟨fun c7 => ⟨fun c8 => ?_, fun c8 => ?_⟩, fun c7 => ?_⟩⟩, fun c5 => ?_⟩
  · have h : p = [47, 46, 46] := by simpa using c6
    subst h
    refine ⟨by simp, ?_⟩
    (refine callV_pc (p_TrimPrefix _ [47]) ?_
     simp only [lawG, ↓Xn, ↓Xo, ↓Xg, ↓Xd, ↓Xe, ↓Xf, Tryz.VΓ, Tryz.Γs, Xp, Xi, Nat.reduceAdd, Nat.reduceSub, Nat.reduceLT, Nat.reduceLeDiff, reduceIte, reduceCtorEq, Nat.reduceEqDiff, implies_true, forall_const, lawV, h0, h3, hj])
    refine ⟨by decide, isU8_map o, ?_⟩
    rw [unU8_map]
    (refine callV_pc (p_LastIndexByte o 47 (by omega)) ?_
     simp only [lawG, ↓Xn, ↓Xo, ↓Xg, ↓Xd, ↓Xe, ↓Xf, Tryz.VΓ, Tryz.Γs, Xp, Xi, Nat.reduceAdd, Nat.reduceSub, Nat.reduceLT, Nat.reduceLeDiff, reduceIte, reduceCtorEq, Nat.reduceEqDiff, implies_true, forall_const, lawV, h0, h3, hj])
    obtain ⟨X, hX, x0, x1, hx⟩ := rd_cut o
    rw [hX]
    refine ⟨⟨x0, x1⟩, rd_done (p' := [47]) (o' := o.take X.toNat) (f := f) rfl ?_ (rd_at x1) ?_ ?_ ?_ (by simp)⟩
    · rw [rd_len x1]; rfl
    · rw [rd_len x1]; simp at hlen ⊢; omega
    · simp at hf ⊢; omega
    · rw [hx]; exact hgo
  · have h : p = [46, 46] := by simpa using c8
    subst h
    exact rd_done (p' := []) rfl h3 hj (by simp at hlen ⊢; omega) (by simp at hf ⊢) hgo (by simp)
  · have n5 := hp_no c5
    have n6 : ¬ p = [47, 46, 46] := by simpa using c6
    have n7 : ¬ (p = [46] ∨ p = [46, 46]) := by rintro (h | h) <;> subst h <;> simp at c7 c8
    rw [if_neg n5, if_neg n6, if_neg n7] at hgo
    simp only at hgo
    have p4 := p_IndexByte (p.drop 1) 47
    rw [indexByte_pre] at p4
    have hpr := pre_le (· == 47) (p.drop 1)
    generalize pre (· == 47) (p.drop 1) = q at hgo p4 hpr
    simp only [List.length_drop] at p4 hpr
    refine ⟨by omega, ?_⟩
    by_cases hq : q < p.length - 1
    · rw [if_pos hq] at p4
      (refine callV_pc (p4) ?_
       simp only [lawG, ↓Xn, ↓Xo, ↓Xg, ↓Xd, ↓Xe, ↓Xf, Tryz.VΓ, Tryz.Γs, Xp, Xi, Nat.reduceAdd, Nat.reduceSub, Nat.reduceLT, Nat.reduceLeDiff, reduceIte, reduceCtorEq, Nat.reduceEqDiff, implies_true, forall_const, lawV, h0, h3, hj])
      have e : (1 + (q : Int)).toNat = 1 + q := by omega
      have el : (p.take (1 + q)).length = 1 + q := by rw [List.length_take]; omega
      rw [e]
      refine ⟨by omega, fun h => (by simp at h; omega), fun _ => ⟨by omega, ⟨one_u8 _, by rw [el]; unfold maxLen; omega, by rw [el]; omega⟩, by omega, rd_done (p' := p.drop (1 + q)) (o' := o ++ p.take (1 + q)) (f := f) rfl ?_ (rd_at2 ..) ?_ ?_ hgo ?_⟩⟩
      · rw [List.length_append]; rfl
      · simp; omega
      · simp; omega
      · simp; omega
    · rw [if_neg hq] at p4
      have hq2 : 1 + q = p.length := by omega
      rw [hq2, List.drop_length, List.take_length] at hgo
      (refine callV_pc (p4) ?_
       simp only [lawG, ↓Xn, ↓Xo, ↓Xg, ↓Xd, ↓Xe, ↓Xf, Tryz.VΓ, Tryz.Γs, Xp, Xi, Nat.reduceAdd, Nat.reduceSub, Nat.reduceLT, Nat.reduceLeDiff, reduceIte, reduceCtorEq, Nat.reduceEqDiff, implies_true, forall_const, lawV, h0, h3, hj])
      refine ⟨by omega, fun _ => ⟨by omega, ⟨one_u8 _, by unfold maxLen; omega, by omega⟩, by omega, rd_done (p' := []) (o' := o ++ p) (f := f) ?_ ?_ (rd_at2 ..) ?_ ?_ hgo ?_⟩, fun h => (by simp at h)⟩
      · simp [lk]
      · rw [List.length_append]; rfl
      · simp; omega
      · simp
      · exact hpl
  · have h : p = [46] := by simpa using c7
    subst h
    exact rd_done (p' := []) rfl h3 hj (by simp at hlen ⊢; omega) (by simp at hf ⊢) hgo (by simp)
  · rw [if_pos (show List.isPrefixOf [47, 46, 46, 47] p = true from c5)] at hgo
    obtain ⟨r, rfl⟩ := List.isPrefixOf_iff_prefix.1 c5
    refine ⟨by simp; omega, ?_⟩
    (refine callV_pc (p_TrimPrefix _ [47]) ?_
     simp only [lawG, ↓Xn, ↓Xo, ↓Xg, ↓Xd, ↓Xe, ↓Xf, Tryz.VΓ, Tryz.Γs, Xp, Xi, Nat.reduceAdd, Nat.reduceSub, Nat.reduceLT, Nat.reduceLeDiff, reduceIte, reduceCtorEq, Nat.reduceEqDiff, implies_true, forall_const, lawV, h0, h3, hj])
    have ht : Lib.trimPrefix (47 :: r) [47] = r := by simp [Lib.trimPrefix, Lib.hasPrefix]
    have hd : (47 :: 46 :: 46 :: 47 :: r : Bytes).drop (Int.toNat 3) = 47 :: r := rfl
    rw [hd, ht]
    refine ⟨by simp at hlen; omega, isU8_map o, ?_⟩
    rw [unU8_map]
    (refine callV_pc (p_LastIndexByte o 47 (by omega)) ?_
     simp only [lawG, ↓Xn, ↓Xo, ↓Xg, ↓Xd, ↓Xe, ↓Xf, Tryz.VΓ, Tryz.Γs, Xp, Xi, Nat.reduceAdd, Nat.reduceSub, Nat.reduceLT, Nat.reduceLeDiff, reduceIte, reduceCtorEq, Nat.reduceEqDiff, implies_true, forall_const, lawV, h0, h3, hj])
    obtain ⟨X, hX, x0, x1, hx⟩ := rd_cut o
    rw [hX]
    refine ⟨⟨x0, x1⟩, rd_done (p' := 47 :: r) (o' := o.take X.toNat) (f := f) rfl ?_ (rd_at x1) ?_ ?_ ?_ (by simp)⟩
    · rw [rd_len x1]; rfl
    · rw [rd_len x1]; simp at hlen ⊢; omega
    · simp at hf ⊢; omega
    · rw [hx]; exact hgo
end Go.Proofs.YtcndmooeglfilaaGreatDoor
/- The walks of package uri: merge, Resolve. -/
set_option linter.all false
set_option maxRecDepth 20000
namespace Go.Proofs.YtcndmooeglfilaaGreatDoor
open Go Vc Go.RowKit Wf
set_option linter.unusedSimpArgs false
theorem dotStep_len (p o : Bytes) (hp : p ≠ []) : (dotStep p o).1.length + (dotStep p o).2.length ≤ p.length + o.length := by
  have hpl : 0 < p.length := List.length_pos_iff.2 hp
  have hs : (shorten o).length ≤ o.length := by rw [shorten_take, List.length_take]; exact Nat.min_le_right _ _
  have hq := pre_le (· == 47) (p.drop 1)
  unfold dotStep
  split
  · simp
  split
  · simp
  split
  · simp
  split
  · rename_i h; subst h; simp
  split
  · simp; omega
  split
  · rename_i h; subst h; simp; omega
  split
  · simp
  · simp at hq ⊢
    omega
theorem dotsGo_len : ∀ (f : Nat) (p o : Bytes), (dotsGo f p o).length ≤ p.length + o.length
  | 0, p, o => by simp [dotsGo]
  | f + 1, p, o => by
    rw [dotsGo]
    split
    · simp
    · rename_i hp
      exact Nat.le_trans (dotsGo_len f _ _) (dotStep_len p o hp)
theorem removeDots_len (s : Bytes) : (removeDots s).length ≤ s.length := by
  have := dotsGo_len s.length s []
  simpa [removeDots] using this
end Go.Proofs.YtcndmooeglfilaaGreatDoor
/- The walks of the references 01 and 06. -/
set_option linter.all false
set_option maxRecDepth 20000
namespace Go.Proofs.YtcndmooeglfilaaGreatDoor
open Go Vc Go.RowKit Wf
set_option linter.unusedSimpArgs false
def lkI (i : Nat) (σ : St) : Nat := match lk i σ.t with
  | some (.int _ n) => n.toNat
  | _ => 0
theorem lkI_eq {i : Nat} {σ : St} {k : IntKind} {n : Int} (h : lk i σ.t = some (.int k n)) : lkI i σ = n.toNat := by simp [lkI, h]
theorem pre_hit {p : UInt8 → Bool} {s : Bytes} {k : Nat} (hk : k < s.length) (h : k ≤ pre p s) (hp : p s[k] = true) : pre p s = k := by
  rcases Nat.lt_or_ge k (pre p s) with h1 | h1
  · rw [pre_get h1 hk] at hp; cases hp
  · omega
theorem pre_miss {p : UInt8 → Bool} {s : Bytes} {k : Nat} (hk : k < s.length) (h : k ≤ pre p s) (hp : p s[k] = false) : k + 1 ≤ pre p s := by
  rcases Nat.lt_or_ge k (pre p s) with h1 | h1
  · exact h1
  · have e : pre p s = k := by omega
    have h2 := pre_at (p := p) (l := s) (by omega)
    simp only [e] at h2
    rw [hp] at h2; cases h2
theorem slash_spec (s : Bytes) : (lastSlash s = 0 ∧ ∀ j (h : j < s.length), s[j] ≠ 47) ∨ (∃ i, ∃ h : i < s.length, lastSlash s = i + 1 ∧ s[i] = 47 ∧ ∀ j (hj : j < s.length), i < j → s[j] ≠ 47) := by
  have e : ∀ j (h : j < s.length), (⟨List.toArray s⟩ : ByteArray).data[j]! = s[j] := fun j h => by simp [h]
  have hb := lastB_slash s
  have hz : (⟨List.toArray s⟩ : ByteArray).size = s.length := rfl
  rcases Lib.lastIndexByte_spec ⟨List.toArray s⟩ (UInt8.toNat 47) with ⟨h1, h2⟩ | ⟨i, h1, h2, h3, h4⟩
  · left
    refine ⟨?_, fun j hj hs => h2 j hj ?_⟩
    · have : lastB s 47 = -1 := h1
      omega
    · rw [e j hj, hs]
  · right
    rw [hz] at h1
    refine ⟨i, h1, ?_, ?_, fun j hj hij hs => h4 j hij hj ?_⟩
    · have : lastB s 47 = i := h2
      omega
    · rw [e i h1] at h3
      exact UInt8.toNat_inj.1 (by exact_mod_cast h3)
    · rw [e j hj, hs]
theorem slash_hit {s : Bytes} {k : Nat} (hk : k < s.length) (h : lastSlash s ≤ k + 1) (hs : s[k] = 47) : lastSlash s = k + 1 := by
  rcases slash_spec s with ⟨-, h2⟩ | ⟨i, hi, h1, h2, h3⟩
  · exact absurd hs (h2 k hk)
  · rcases Nat.lt_or_ge i k with h4 | h4
    · exact absurd hs (h3 k hk h4)
    · omega
theorem slash_miss {s : Bytes} {k : Nat} (hk : k < s.length) (h : lastSlash s ≤ k + 1) (hs : s[k] ≠ 47) : lastSlash s ≤ k := by
  rcases slash_spec s with ⟨h1, -⟩ | ⟨i, hi, h1, h2, h3⟩
  · omega
  · rcases Nat.lt_or_ge i k with h4 | h4
    · omega
    · have : i = k := by omega
      subst this
      exact absurd h2 hs
set_option maxHeartbeats 2000000 in
theorem p_r1_In (c : UInt8) (set : Bytes) (ht : set.length ≤ 4294967281) : PC Tryz.V 95 [.int .u8 c.toNat, .str set] (.bool (set.contains c)) := by
  refine pc_of 3000 Tryz.func95 rfl Tryz.ntmps95 Tryz.results95 Tryz.call95 (by simp) (by simp [flat, flat.flatL]) (by simp [flat, flat.flatL]) ?_
  simp only [lawG, ↓Xn, ↓Xo, ↓Xg, ↓Xd, ↓Xe, ↓Xf, Tryz.VΓ, Tryz.Γs, Xp, Xi, Nat.reduceAdd, Nat.reduceSub, Nat.reduceLT, Nat.reduceLeDiff, reduceIte, reduceCtorEq, Nat.reduceEqDiff, implies_true, forall_const, lawV]
  refine loopV_mk (fun σ => ∃ k : Nat, k ≤ set.length ∧ (set.take k).contains c = false ∧ lk 0 σ.t = some (.int .u8 c.toNat) ∧ lk 1 σ.t = some (.str set) ∧ lk 4 σ.t = some (.bool false) ∧ lk 5 σ.t = some (.int .i64 k)) (fun σ => set.length - lkI 5 σ) ⟨0, by omega, rfl, rfl, rfl, rfl, rfl⟩ ?_
  rintro ⟨t, b⟩ ⟨k, hk, hc, h0, h1, h4, h5⟩
  simp only at h0 h1 h4 h5
  rw [lkI_eq h5]
  simp only [lawG, ↓Xn, ↓Xo, ↓Xg, ↓Xd, ↓Xe, ↓Xf, Tryz.VΓ, Tryz.Γs, Xp, Xi, Nat.reduceAdd, Nat.reduceSub, Nat.reduceLT, Nat.reduceLeDiff, reduceIte, reduceCtorEq, Nat.reduceEqDiff, implies_true, forall_const, lawV, h0, h1, h4, h5]
  refine ⟨fun h => ?_, fun h => ?_⟩
  · have hk' : k < set.length := by simpa using h
    rw [byte_is (n := c.toNat) hk' c rfl]
    refine ⟨by omega, fun e => ?_, fun e => ⟨by omega, ⟨k + 1, by omega, ?_, by simp⟩, by rw [lkI_eq rfl]; omega⟩⟩
    · rw [show set.contains c = true from List.contains_iff_mem.2 (by rw [← beq_iff_eq.1 e]; exact List.getElem_mem hk')]
    · apply Bool.eq_false_iff.2
      intro hh
      rw [List.contains_iff_mem, List.take_succ_eq_append_getElem hk', List.mem_append] at hh
      rcases hh with hh | hh
      · exact absurd (List.contains_iff_mem.2 hh) (by rw [hc]; simp)
      · have hh := List.mem_singleton.1 hh
        rw [← hh] at e
        simp at e
  · have : k = set.length := by simp at h; omega
    subst this
    rw [List.take_length] at hc
    rw [hc]
theorem p_r1_Prefix (s p : Bytes) : PC Tryz.V 49 [.str s, .str p] (.bool (Lib.hasPrefix s p)) := by
  refine pc_of 3000 Tryz.func49 rfl Tryz.ntmps49 Tryz.results49 Tryz.call49 (by simp) (by simp [flat, flat.flatL]) (by simp [flat, flat.flatL]) ?_
  simp only [lawG, ↓Xn, ↓Xo, ↓Xg, ↓Xd, ↓Xe, ↓Xf, Tryz.VΓ, Tryz.Γs, Xp, Xi, Nat.reduceAdd, Nat.reduceSub, Nat.reduceLT, Nat.reduceLeDiff, reduceIte, reduceCtorEq, Nat.reduceEqDiff, implies_true, forall_const, lawV]
  have e : Lib.hasPrefix s p = (s.take p.length == p) := by
    rw [Bool.eq_iff_iff, Lib.hasPrefix, List.isPrefixOf_iff_prefix, List.prefix_iff_eq_take, beq_iff_eq]
    exact eq_comm
  refine ⟨fun h => ⟨by simp at h; omega, by rw [e]⟩, fun h => ?_⟩
  rw [e, show (s.take p.length == p) = false from beq_eq_false_iff_ne.2 fun q => by
    have := congrArg List.length q
    simp at h this
    omega]
set_option maxHeartbeats 2000000 in
theorem p_r1_Index (s set : Bytes) (hs : s.length ≤ 4294967281) (ht : set.length ≤ 4294967281) : PC Tryz.V 50 [.str s, .str set] (.int .i64 (pre (set.contains ·) s)) := by
  refine pc_of 3000 Tryz.func50 rfl Tryz.ntmps50 Tryz.results50 Tryz.call50 (by simp) (by simp [flat, flat.flatL]) (by simp [flat, flat.flatL]) ?_
  simp only [lawG, ↓Xn, ↓Xo, ↓Xg, ↓Xd, ↓Xe, ↓Xf, Tryz.VΓ, Tryz.Γs, Xp, Xi, Nat.reduceAdd, Nat.reduceSub, Nat.reduceLT, Nat.reduceLeDiff, reduceIte, reduceCtorEq, Nat.reduceEqDiff, implies_true, forall_const, lawV]
  refine loopV_mk (fun σ => ∃ k : Nat, k ≤ s.length ∧ k ≤ pre (set.contains ·) s ∧ lk 0 σ.t = some (.str s) ∧ lk 1 σ.t = some (.str set) ∧ lk 5 σ.t = some (.int .i64 k)) (fun σ => s.length - lkI 5 σ) ⟨0, by omega, by omega, rfl, rfl, rfl⟩ ?_
  rintro ⟨t, b⟩ ⟨k, hk, hc, h0, h1, h5⟩
  simp only at h0 h1 h5
  rw [lkI_eq h5]
  simp only [lawG, ↓Xn, ↓Xo, ↓Xg, ↓Xd, ↓Xe, ↓Xf, Tryz.VΓ, Tryz.Γs, Xp, Xi, Nat.reduceAdd, Nat.reduceSub, Nat.reduceLT, Nat.reduceLeDiff, reduceIte, reduceCtorEq, Nat.reduceEqDiff, implies_true, forall_const, lawV, h0, h1, h5]
  have hpl := pre_le (set.contains ·) s
  refine ⟨fun h => ?_, fun h => ?_⟩
  · have hk' : k < s.length := by simpa using h
    have hin := p_r1_In (s.getD k 0) set ht
    refine ⟨by omega, ?_⟩
    (refine callV_pc (hin) ?_; simp only [lawG, ↓Xn, ↓Xo, ↓Xg, ↓Xd, ↓Xe, ↓Xf, Tryz.VΓ, Tryz.Γs, Xp, Xi, Nat.reduceAdd, Nat.reduceSub, Nat.reduceLT, Nat.reduceLeDiff, reduceIte, reduceCtorEq, Nat.reduceEqDiff, implies_true, forall_const, lawV, h0, h1, h5])
    rw [show s.getD k 0 = s[k] by simp [List.getD, hk']]
    refine ⟨fun e => ?_, fun e => ⟨by omega, ⟨k + 1, by omega, pre_miss hk' hc e, by simp⟩, by rw [lkI_eq rfl]; omega⟩⟩
    rw [pre_hit hk' hc e]
  · have : k = s.length := by simp at h; omega
    rw [show pre (set.contains ·) s = s.length by omega]
set_option maxHeartbeats 2000000 in
theorem p_r6_shorten (s : Bytes) (hs : s.length ≤ 4294967281) : PC Tryz.V 124 [.str s] (.str (shorten s)) := by
  refine pc_of 3000 Tryz.func124 rfl Tryz.ntmps124 Tryz.results124 Tryz.call124 (by simp) (by simp [flat, flat.flatL]) (by simp [flat, flat.flatL]) ?_
  simp only [lawG, ↓Xn, ↓Xo, ↓Xg, ↓Xd, ↓Xe, ↓Xf, Tryz.VΓ, Tryz.Γs, Xp, Xi, Nat.reduceAdd, Nat.reduceSub, Nat.reduceLT, Nat.reduceLeDiff, reduceIte, reduceCtorEq, Nat.reduceEqDiff, implies_true, forall_const, lawV]
  refine ⟨by omega, loopV_mk (fun σ => ∃ k : Nat, k ≤ s.length ∧ lastSlash s ≤ k ∧ lk 0 σ.t = some (.str s) ∧ lk 3 σ.t = some (.int .i64 ((k : Int) - 1))) (fun σ => match lk 3 σ.t with | some (.int _ n) => (n + 1).toNat | _ => 0) ⟨s.length, by omega, lastSlash_le s, rfl, rfl⟩ ?_⟩
  rintro ⟨t, b⟩ ⟨k, hk, hc, h0, h3⟩
  simp only at h0 h3
  simp only [lawG, ↓Xn, ↓Xo, ↓Xg, ↓Xd, ↓Xe, ↓Xf, Tryz.VΓ, Tryz.Γs, Xp, Xi, Nat.reduceAdd, Nat.reduceSub, Nat.reduceLT, Nat.reduceLeDiff, reduceIte, reduceCtorEq, Nat.reduceEqDiff, implies_true, forall_const, lawV, h0, h3]
  refine ⟨fun h => ?_, fun h => ?_⟩
  · have hk0 : 0 < k := by simp at h; omega
    obtain ⟨k, rfl⟩ : ∃ m, k = m + 1 := ⟨k - 1, by omega⟩
    have e : (((k + 1 : Nat) : Int) - 1).toNat = k := by omega
    rw [e, byte_is (n := 47) (by omega) 47 rfl]
    refine ⟨by omega, fun q => ⟨by omega, ?_⟩, fun q => ⟨by omega, ⟨k, by omega, slash_miss (by omega) hc (by simpa using q), ?_⟩, by omega⟩⟩
    · rw [shorten_take, slash_hit (by omega) hc (by simpa using q)]; rfl
    · congr 1; omega
  · rw [shorten_take, show lastSlash s = 0 by simp at h; omega]
    simp
set_option maxHeartbeats 2000000 in
theorem p_r6_RemoveDots (s : Bytes) (hs : s.length ≤ 4294967281) : PC Tryz.V 73 [.str s] (.str (removeDots s)) := by
  refine pc_of 3000 Tryz.func73 rfl Tryz.ntmps73 Tryz.results73 Tryz.call73 (by simp) (by simp [flat, flat.flatL]) (by simp [flat, flat.flatL]) ?_
  simp only [lawG, ↓Xn, ↓Xo, ↓Xg, ↓Xd, ↓Xe, ↓Xf, Tryz.VΓ, Tryz.Γs, Xp, Xi, Nat.reduceAdd, Nat.reduceSub, Nat.reduceLT, Nat.reduceLeDiff, reduceIte, reduceCtorEq, Nat.reduceEqDiff, implies_true, forall_const, lawV]
  refine loopV_mk (fun σ => ∃ (p o : Bytes) (f : Nat), lk 3 σ.t = some (.str p) ∧ lk 4 σ.t = some (.str o) ∧ p.length + o.length ≤ s.length ∧ p.length ≤ f ∧ dotsGo f p o = removeDots s) (fun σ => match lk 3 σ.t with | some (.str p) => p.length | _ => 0) ⟨s, [], s.length, rfl, rfl, by simp, Nat.le_refl _, rfl⟩ ?_
  rintro ⟨t, b⟩ ⟨p, o, f, h3, h4, hlen, hf, hgo⟩
  simp only at h3 h4
  simp only [lawG, ↓Xn, ↓Xo, ↓Xg, ↓Xd, ↓Xe, ↓Xf, Tryz.VΓ, Tryz.Γs, Xp, Xi, Nat.reduceAdd, Nat.reduceSub, Nat.reduceLT, Nat.reduceLeDiff, reduceIte, reduceCtorEq, Nat.reduceEqDiff, implies_true, forall_const, lawV, h3, h4]
  have hend : p = [] → o = removeDots s := fun hp => by subst hp; cases f <;> simpa [dotsGo] using hgo
  refine ⟨fun hp => ?_, fun hp => ?_⟩
  rotate_left
  · rw [hend (by simpa using hp)]
  replace hp : p ≠ [] := by simpa using hp
  have hpl : 0 < p.length := List.length_pos_iff.2 hp
  obtain ⟨f, rfl⟩ : ∃ f', f = f' + 1 := ⟨f - 1, by omega⟩
  rw [dotsGo, if_neg hp] at hgo
  (refine callV_pc (p_r1_Prefix p [46, 46, 47]) ?_; simp only [lawG, ↓Xn, ↓Xo, ↓Xg, ↓Xd, ↓Xe, ↓Xf, Tryz.VΓ, Tryz.Γs, Xp, Xi, Nat.reduceAdd, Nat.reduceSub, Nat.reduceLT, Nat.reduceLeDiff, reduceIte, reduceCtorEq, Nat.reduceEqDiff, implies_true, forall_const, lawV, h3, h4])
  refine ⟨fun c1 => ?_, fun c1 => ?_⟩
  · have h := hp_len c1
    rw [show dotStep p o = (p.drop 3, o) from if_pos c1] at hgo
    exact ⟨⟨by omega, by simp at h; omega⟩, ⟨_, _, f, rfl, rfl, by simp; omega, by simp at h ⊢; omega, hgo⟩, by simp at h ⊢; omega⟩
  (refine callV_pc (p_r1_Prefix p [46, 47]) ?_; simp only [lawG, ↓Xn, ↓Xo, ↓Xg, ↓Xd, ↓Xe, ↓Xf, Tryz.VΓ, Tryz.Γs, Xp, Xi, Nat.reduceAdd, Nat.reduceSub, Nat.reduceLT, Nat.reduceLeDiff, reduceIte, reduceCtorEq, Nat.reduceEqDiff, implies_true, forall_const, lawV, h3, h4])
  refine ⟨fun c2 => ?_, fun c2 => ?_⟩
  · have h := hp_len c2
    rw [show dotStep p o = (p.drop 2, o) by unfold dotStep; rw [if_neg (hp_no c1)]; exact if_pos c2] at hgo
    exact ⟨⟨by omega, by simp at h; omega⟩, ⟨_, _, f, rfl, rfl, by simp; omega, by simp at h ⊢; omega, hgo⟩, by simp at h ⊢; omega⟩
  (refine callV_pc (p_r1_Prefix p [47, 46, 47]) ?_; simp only [lawG, ↓Xn, ↓Xo, ↓Xg, ↓Xd, ↓Xe, ↓Xf, Tryz.VΓ, Tryz.Γs, Xp, Xi, Nat.reduceAdd, Nat.reduceSub, Nat.reduceLT, Nat.reduceLeDiff, reduceIte, reduceCtorEq, Nat.reduceEqDiff, implies_true, forall_const, lawV, h3, h4])
  refine ⟨fun c3 => ?_, fun c3 => ?_⟩
  · have h := hp_len c3
    rw [show dotStep p o = (p.drop 2, o) by unfold dotStep; rw [if_neg (hp_no c1), if_neg (hp_no c2)]; exact if_pos c3] at hgo
    exact ⟨⟨by omega, by simp at h; omega⟩, ⟨_, _, f, rfl, rfl, by simp; omega, by simp at h ⊢; omega, hgo⟩, by simp at h ⊢; omega⟩
  refine ⟨fun c4 => ?_, fun c4 => ?_⟩
  · have h : p = [47, 46] := by simpa using c4
    subst h
    exact ⟨⟨_, _, f, rfl, rfl, by simp at hlen ⊢; omega, by simp at hf ⊢; omega, hgo⟩, by simp⟩
  have n4 : ¬ p = [47, 46] := by simpa using c4
  have hdot : dotStep p o = if [47, 46, 46, 47].isPrefixOf p then (p.drop 3, shorten o)
      else if p = [47, 46, 46] then ([47], shorten o)
      else if p = [46] ∨ p = [46, 46] then ([], o)
      else (p.drop (1 + pre (· == 47) (p.drop 1)), o ++ p.take (1 + pre (· == 47) (p.drop 1))) := by
    unfold dotStep; rw [if_neg (hp_no c1), if_neg (hp_no c2), if_neg (hp_no c3), if_neg n4]
  rw [hdot] at hgo
  have hsl : (shorten o).length ≤ o.length := by rw [shorten_take, List.length_take]; exact Nat.min_le_right _ _
  (refine callV_pc (p_r1_Prefix p [47, 46, 46, 47]) ?_; simp only [lawG, ↓Xn, ↓Xo, ↓Xg, ↓Xd, ↓Xe, ↓Xf, Tryz.VΓ, Tryz.Γs, Xp, Xi, Nat.reduceAdd, Nat.reduceSub, Nat.reduceLT, Nat.reduceLeDiff, reduceIte, reduceCtorEq, Nat.reduceEqDiff, implies_true, forall_const, lawV, h3, h4])
  refine ⟨fun c5 => ?_, fun c5 => ?_⟩
  · have h := hp_len c5
    rw [if_pos (show List.isPrefixOf [47, 46, 46, 47] p = true from c5)] at hgo
    refine ⟨⟨by omega, by simp at h; omega⟩, ?_⟩
    have pd := p_r6_shorten o (by omega)
    (refine callD_pc (pd) ?_; simp only [lawG, ↓Xn, ↓Xo, ↓Xg, ↓Xd, ↓Xe, ↓Xf, Tryz.VΓ, Tryz.Γs, Xp, Xi, Nat.reduceAdd, Nat.reduceSub, Nat.reduceLT, Nat.reduceLeDiff, reduceIte, reduceCtorEq, Nat.reduceEqDiff, implies_true, forall_const, lawV, h3, h4])
    exact ⟨(OkD_fast (by kernel_rfl)), ⟨_, _, f, rfl, rfl, by simp; omega, by simp at h ⊢; omega, hgo⟩, by simp at h ⊢; omega⟩
  rw [if_neg (hp_no c5)] at hgo
  refine ⟨fun c6 => ?_, fun c6 => ?_⟩
  · have h : p = [47, 46, 46] := by simpa using c6
    subst h
    have pd := p_r6_shorten o (by omega)
    (refine callV_pc (pd) ?_; simp only [lawG, ↓Xn, ↓Xo, ↓Xg, ↓Xd, ↓Xe, ↓Xf, Tryz.VΓ, Tryz.Γs, Xp, Xi, Nat.reduceAdd, Nat.reduceSub, Nat.reduceLT, Nat.reduceLeDiff, reduceIte, reduceCtorEq, Nat.reduceEqDiff, implies_true, forall_const, lawV, h3, h4])
    exact ⟨[47], shorten o, f, rfl, rfl, by simp at hlen ⊢; omega, by simp at hf ⊢; omega, hgo⟩
  rw [if_neg (show ¬ p = [47, 46, 46] by simpa using c6)] at hgo
  refine ⟨fun c7 => ⟨fun c8 => ?_, fun c8 => ?_⟩, fun c7 => ?_⟩
  · have h : p = [46, 46] := by simpa using c8
    subst h
    exact ⟨⟨_, _, f, rfl, rfl, by simp at hlen ⊢; omega, by simp, hgo⟩, by simp⟩
  · rw [if_neg (show ¬ (p = [46] ∨ p = [46, 46]) by rintro (h | h) <;> subst h <;> simp at c7 c8)] at hgo
    have px := p_r1_Index (p.drop 1) [47] (by simp; omega) (by simp)
    have hpe : pre (([47] : Bytes).contains ·) (p.drop 1) = pre (· == 47) (p.drop 1) := by
      congr 1
      funext c
      by_cases h : c = 47
      · subst h; rfl
      · simp [h]
    rw [hpe] at px
    have hq := pre_le (· == 47) (p.drop 1)
    simp only [List.length_drop] at hq
    generalize pre (· == 47) (p.drop 1) = q at px hgo hq
    refine ⟨by omega, ?_⟩
    (refine callV_pc (px) ?_; simp only [lawG, ↓Xn, ↓Xo, ↓Xg, ↓Xd, ↓Xe, ↓Xf, Tryz.VΓ, Tryz.Γs, Xp, Xi, Nat.reduceAdd, Nat.reduceSub, Nat.reduceLT, Nat.reduceLeDiff, reduceIte, reduceCtorEq, Nat.reduceEqDiff, implies_true, forall_const, lawV, h3, h4])
    have e : (1 + (q : Int)).toNat = 1 + q := by omega
    have el : (p.take (1 + q)).length = 1 + q := by rw [List.length_take]; omega
    rw [e]
    exact ⟨by omega, by omega, by omega, by rw [el]; omega, (OkD_fast (by kernel_rfl)), ⟨_, _, f, rfl, rfl, by simp; omega, by simp; omega, hgo⟩, by simp; omega⟩
  · have h : p = [46] := by simpa using c7
    subst h
    exact ⟨⟨_, _, f, rfl, rfl, by simp at hlen ⊢; omega, by simp, hgo⟩, by simp⟩
end Go.Proofs.YtcndmooeglfilaaGreatDoor
/- The walks of reference 06: scheme, Split, merged, Resolve. -/
set_option linter.all false
set_option maxRecDepth 20000
namespace Go.Proofs.YtcndmooeglfilaaGreatDoor
open Go Vc Go.RowKit Wf
set_option linter.unusedSimpArgs false
theorem p_r1_IsAlpha (c : UInt8) : PC Tryz.V 98 [.int .u8 c.toNat] (.bool (isAlpha c)) := by
  refine pc_of 3000 Tryz.func98 rfl Tryz.ntmps98 Tryz.results98 Tryz.call98 (by simp) (by simp [flat, flat.flatL]) (by simp [flat, flat.flatL]) ?_
  simp only [lawG, ↓Xn, ↓Xo, ↓Xg, ↓Xd, ↓Xe, ↓Xf, Tryz.VΓ, Tryz.Γs, Xp, Xi, Nat.reduceAdd, Nat.reduceSub, Nat.reduceLT, Nat.reduceLeDiff, reduceIte, reduceCtorEq, Nat.reduceEqDiff, implies_true, forall_const, lawV]
  unfold isAlpha
  by_cases h1 : 65 ≤ c.toNat <;> by_cases h2 : c.toNat ≤ 90 <;> by_cases h3 : 97 ≤ c.toNat <;> by_cases h4 : c.toNat ≤ 122 <;> simp [h1, h2, h3, h4] <;> omega
theorem p_r1_IsDigit (c : UInt8) : PC Tryz.V 96 [.int .u8 c.toNat] (.bool (isDigit c)) := by
  refine pc_of 3000 Tryz.func96 rfl Tryz.ntmps96 Tryz.results96 Tryz.call96 (by simp) (by simp [flat, flat.flatL]) (by simp [flat, flat.flatL]) ?_
  simp only [lawG, ↓Xn, ↓Xo, ↓Xg, ↓Xd, ↓Xe, ↓Xf, Tryz.VΓ, Tryz.Γs, Xp, Xi, Nat.reduceAdd, Nat.reduceSub, Nat.reduceLT, Nat.reduceLeDiff, reduceIte, reduceCtorEq, Nat.reduceEqDiff, implies_true, forall_const, lawV]
  unfold isDigit
  by_cases h1 : 48 ≤ c.toNat <;> by_cases h2 : c.toNat ≤ 57 <;> simp [h1, h2] <;> omega
theorem scheme_step {s : Bytes} {k : Nat} (hk : k < s.length) (hr : k = 0 ∨ schemeOk (s.take k) = true) (hc : isAlpha s[k] = true ∨ (0 < k ∧ schemeC s[k] = true)) : k + 1 = 0 ∨ schemeOk (s.take (k + 1)) = true := by
  right
  rcases Nat.eq_zero_or_pos k with h0 | h0
  · subst h0
    rcases hc with hc | ⟨hc, -⟩
    · exact scheme_one hk hc
    · omega
  · refine scheme_snoc h0 hk (hr.resolve_left (by omega)) ?_
    rcases hc with hc | ⟨-, hc⟩
    · simp [schemeC, hc]
    · exact hc
theorem not_t {b : Bool} (h : (!b) = true) : b = false := by cases b <;> simp at h ⊢
theorem not_f {b : Bool} (h : (!b) = false) : b = true := by cases b <;> simp at h ⊢
set_option maxHeartbeats 2000000 in
theorem p_r6_scheme (s : Bytes) (hs : s.length ≤ 4294967281) : PC Tryz.V 121 [.str s] (.bool (schemeOk s)) := by
  refine pc_of 3000 Tryz.func121 rfl Tryz.ntmps121 Tryz.results121 Tryz.call121 (by simp) (by simp [flat, flat.flatL]) (by simp [flat, flat.flatL]) ?_
  simp only [lawG, ↓Xn, ↓Xo, ↓Xg, ↓Xd, ↓Xe, ↓Xf, Tryz.VΓ, Tryz.Γs, Xp, Xi, Nat.reduceAdd, Nat.reduceSub, Nat.reduceLT, Nat.reduceLeDiff, reduceIte, reduceCtorEq, Nat.reduceEqDiff, implies_true, forall_const, lawV]
  refine loopV_mk (fun σ => ∃ k : Nat, k ≤ s.length ∧ (k = 0 ∨ schemeOk (s.take k) = true) ∧ lk 0 σ.t = some (.str s) ∧ lk 3 σ.t = some (.int .i64 k)) (fun σ => s.length - lkI 3 σ) ⟨0, by omega, .inl rfl, rfl, rfl⟩ ?_
  rintro ⟨t, b⟩ ⟨k, hk, hr, h0, h3⟩
  simp only at h0 h3
  rw [lkI_eq h3]
  simp only [lawG, ↓Xn, ↓Xo, ↓Xg, ↓Xd, ↓Xe, ↓Xf, Tryz.VΓ, Tryz.Γs, Xp, Xi, Nat.reduceAdd, Nat.reduceSub, Nat.reduceLT, Nat.reduceLeDiff, reduceIte, reduceCtorEq, Nat.reduceEqDiff, implies_true, forall_const, lawV, h0, h3]
  refine ⟨fun h => ⟨by simpa using h, ?_⟩, fun h => ?_⟩
  · have hk' : k < s.length := by simpa using h
    rw [show s.getD k 0 = s[k] by simp [List.getD, hk']]
    (refine callV_pc (p_r1_IsAlpha s[k]) ?_; simp only [lawG, ↓Xn, ↓Xo, ↓Xg, ↓Xd, ↓Xe, ↓Xf, Tryz.VΓ, Tryz.Γs, Xp, Xi, Nat.reduceAdd, Nat.reduceSub, Nat.reduceLT, Nat.reduceLeDiff, reduceIte, reduceCtorEq, Nat.reduceEqDiff, implies_true, forall_const, lawV, h0, h3])
    refine ⟨fun ca => ⟨fun c0 => ?_, fun c0 => ?_⟩, fun ca => ⟨by omega, ⟨k + 1, by omega, scheme_step hk' hr (.inl (not_f ca)), by simp⟩, by rw [lkI_eq rfl]; omega⟩⟩
    · rw [show s.getD k 0 = s[k] by simp [List.getD, hk']]
      refine ⟨by omega, ?_⟩
      (refine callV_pc (p_r1_IsDigit s[k]) ?_; simp only [lawG, ↓Xn, ↓Xo, ↓Xg, ↓Xd, ↓Xe, ↓Xf, Tryz.VΓ, Tryz.Γs, Xp, Xi, Nat.reduceAdd, Nat.reduceSub, Nat.reduceLT, Nat.reduceLeDiff, reduceIte, reduceCtorEq, Nat.reduceEqDiff, implies_true, forall_const, lawV, h0, h3])
      refine ⟨fun cd => ⟨by omega, ?_⟩, fun cd => ?_⟩
      · rw [show s.getD k 0 = s[k] by simp [List.getD, hk']]
        (refine callV_pc (p_r1_In s[k] [43, 45, 46] (by simp)) ?_; simp only [lawG, ↓Xn, ↓Xo, ↓Xg, ↓Xd, ↓Xe, ↓Xf, Tryz.VΓ, Tryz.Γs, Xp, Xi, Nat.reduceAdd, Nat.reduceSub, Nat.reduceLT, Nat.reduceLeDiff, reduceIte, reduceCtorEq, Nat.reduceEqDiff, implies_true, forall_const, lawV, h0, h3])
        refine ⟨fun ci => ?_, fun ci => ⟨by omega, ⟨k + 1, by omega, scheme_step hk' hr (.inr ⟨by simp at c0; omega, by unfold schemeC; rw [not_f ci]; simp⟩), by simp⟩, by rw [lkI_eq rfl]; omega⟩⟩
        rw [scheme_no (by simp at c0; omega) hk' (by unfold schemeC; rw [not_t ca, not_t cd, not_t ci]; rfl)]
      · exact ⟨by omega, ⟨k + 1, by omega, scheme_step hk' hr (.inr ⟨by simp at c0; omega, by unfold schemeC; rw [not_f cd]; simp⟩), by simp⟩, by rw [lkI_eq rfl]; omega⟩
    · have hk0 : k = 0 := by simp at c0; omega
      subst hk0
      rw [scheme_one_no hk' (by simpa using ca)]
  · rcases hr with hr | hr
    · have : s = [] := List.eq_nil_of_length_eq_zero (by simp at h; omega)
      subst this; rfl
    · rw [List.take_of_length_le (by simp at h; omega)] at hr
      rw [hr]
      cases s with
      | nil => simp [schemeOk] at hr
      | cons => rfl
def refMerge (b r : Uri) : Bytes := if b.hasAuthority ∧ b.path = [] then 47 :: r.path else b.path.take (lastSlash b.path) ++ r.path
end Go.Proofs.YtcndmooeglfilaaGreatDoor
/- The walks of the reference for package percent. -/
set_option linter.all false
set_option maxRecDepth 20000
namespace Go.Proofs.YtcndmooeglfilaaGreatDoor
open Go Vc Go.RowKit Wf
theorem p_r1_IsHex (c : UInt8) : PC Tryz.V 135 [.int .u8 c.toNat] (.bool (isHex c)) :=
  ⟨Tryz.call135, by simp [flat, flat.flatL], by simp [flat, flat.flatL], fun w _ => (ref01_IsHex c w).mono fun _ _ ⟨h, k⟩ => ⟨h, below_same k⟩⟩
theorem p_r1_IsUnreserved (c : UInt8) : PC Tryz.V 80 [.int .u8 c.toNat] (.bool (unres c)) := by
  refine pc_of 3000 Tryz.func80 rfl Tryz.ntmps80 Tryz.results80 Tryz.call80 (by simp) (by simp [flat, flat.flatL]) (by simp [flat, flat.flatL]) ?_
  simp only [lawG, ↓Xn, ↓Xo, ↓Xg, ↓Xd, ↓Xe, ↓Xf, Tryz.VΓ, Tryz.Γs, Xp, Xi, Nat.reduceAdd, Nat.reduceSub, Nat.reduceLT, Nat.reduceLeDiff, reduceIte, reduceCtorEq, Nat.reduceEqDiff, implies_true, forall_const, lawV]
  (refine callV_pc (p_r1_IsAlpha c) ?_; simp only [lawG, ↓Xn, ↓Xo, ↓Xg, ↓Xd, ↓Xe, ↓Xf, Tryz.VΓ, Tryz.Γs, Xp, Xi, Nat.reduceAdd, Nat.reduceSub, Nat.reduceLT, Nat.reduceLeDiff, reduceIte, reduceCtorEq, Nat.reduceEqDiff, implies_true, forall_const, lawV])
  refine ⟨fun h => ?_, fun h => ?_⟩
  · (refine callV_pc (p_r1_IsDigit c) ?_; simp only [lawG, ↓Xn, ↓Xo, ↓Xg, ↓Xd, ↓Xe, ↓Xf, Tryz.VΓ, Tryz.Γs, Xp, Xi, Nat.reduceAdd, Nat.reduceSub, Nat.reduceLT, Nat.reduceLeDiff, reduceIte, reduceCtorEq, Nat.reduceEqDiff, implies_true, forall_const, lawV])
    refine ⟨fun h2 => ?_, fun h2 => ?_⟩
    · (refine callV_pc (p_r1_In c [45, 46, 95, 126] (by simp)) ?_; simp only [lawG, ↓Xn, ↓Xo, ↓Xg, ↓Xd, ↓Xe, ↓Xf, Tryz.VΓ, Tryz.Γs, Xp, Xi, Nat.reduceAdd, Nat.reduceSub, Nat.reduceLT, Nat.reduceLeDiff, reduceIte, reduceCtorEq, Nat.reduceEqDiff, implies_true, forall_const, lawV])
      unfold unres; rw [h, h2]; rfl
    · unfold unres; rw [h, h2]; rfl
  · unfold unres; rw [h]; rfl
theorem p_r3_digit (c : UInt8) (hc : isHex c = true) : PC Tryz.V 136 [.int .u8 c.toNat] (.int .u8 (hexVal c)) := by
  have key := all256 (p := fun c => !isHex c || (decide ((c.toNat ≤ 57 → IntKind.u8.wrap ((c.toNat : Int) - 48) = hexVal c) ∧ (57 < c.toNat → c.toNat ≤ 70 → IntKind.u8.wrap (IntKind.u8.wrap ((c.toNat : Int) - 65) + 10) = hexVal c) ∧ (70 < c.toNat → IntKind.u8.wrap (IntKind.u8.wrap ((c.toNat : Int) - 97) + 10) = hexVal c)))) (by decide +kernel) c
  simp only [hc, Bool.not_true, Bool.false_or, decide_eq_true_eq] at key
  obtain ⟨k1, k2, k3⟩ := key
  refine pc_of 3000 Tryz.func136 rfl Tryz.ntmps136 Tryz.results136 Tryz.call136 (by simp) (by simp [flat, flat.flatL]) (by simp [flat, flat.flatL]) ?_
  simp only [lawG, ↓Xn, ↓Xo, ↓Xg, ↓Xd, ↓Xe, ↓Xf, Tryz.VΓ, Tryz.Γs, Xp, Xi, Nat.reduceAdd, Nat.reduceSub, Nat.reduceLT, Nat.reduceLeDiff, reduceIte, reduceCtorEq, Nat.reduceEqDiff, implies_true, forall_const, lawV]
  refine ⟨fun h => ?_, fun h => ⟨fun h2 => ?_, fun h2 => ?_⟩⟩
  · rw [k1 (by simp at h; omega)]
  · rw [k2 (by simp at h; omega) (by simp at h2; omega)]
  · rw [k3 (by simp at h2; omega)]
theorem unhex_arith (a b : UInt8) (ha : isHex a = true) (hb : isHex b = true) : IntKind.u8.wrap (IntKind.u8.wrap (16 * (hexVal a : Int)) + hexVal b) = ((unhex a b).toNat : Int) := by
  have h1 := hexVal_le ha
  have h2 := hexVal_le hb
  have : ∀ x, x < 16 → ∀ y, y < 16 → IntKind.u8.wrap (IntKind.u8.wrap (16 * ((x : Nat) : Int)) + (y : Nat)) = (((x * 16 + y).toUInt8).toNat : Int) := by decide +kernel
  exact this _ (by omega) _ (by omega)
set_option maxRecDepth 20000 in
set_option maxHeartbeats 1000000 in
theorem p_r3_escape (s : Bytes) (i : Nat) (hi : i < s.length) (hp : s[i] = 37) (hs : s.length ≤ 4294967281) : PC Tryz.V 97 [.str s, .int .i64 i] (.tup [.int .u8 (((escAt s i).getD 0).toNat : Int), .bool (escAt s i).isSome]) := by
  have hg : ((s.getD i 0).toNat : Int) = 37 := by rw [show s.getD i 0 = 37 by rw [← hp]; simp [List.getD, hi]]; rfl
  refine pc_of 3000 Tryz.func97 rfl Tryz.ntmps97 Tryz.results97 Tryz.call97 (by simp) (by simp [flat, flat.flatL]) (by simp [flat, flat.flatL]) ?_
  simp (config := { maxSteps := 2000000 }) only [lawG, ↓Xn, ↓Xo, ↓Xg, ↓Xd, ↓Xe, ↓Xf, Tryz.VΓ, Tryz.Γs, Xp, Xi, Nat.reduceAdd, Nat.reduceSub, Nat.reduceLT, Nat.reduceLeDiff, reduceIte, reduceCtorEq, Nat.reduceEqDiff, implies_true, forall_const, lawV, hg, Int.toNat_natCast, beq_self_eq_true, bne_self_eq_false, Int.reduceBEq, Int.reduceBNe, Int.reduceLT, Int.reduceLE]
  unfold escAt
  rw [hexPair_drop]
  refine ⟨⟨by omega, by omega⟩, fun hl => ?_, fun hl => ?_⟩
  · have hl : i + 2 < s.length := (by simp at hl; omega)
    rw [if_pos hl]
    refine ⟨⟨by omega, by omega⟩, ⟨by omega, by omega⟩, ⟨by omega, by omega⟩, ?_⟩
    · skip
      (refine callV_pc (p_r1_IsHex _) ?_; simp only [lawG, ↓Xn, ↓Xo, ↓Xg, ↓Xd, ↓Xe, ↓Xf, Tryz.VΓ, Tryz.Γs, Xp, Xi, Nat.reduceAdd, Nat.reduceSub, Nat.reduceLT, Nat.reduceLeDiff, reduceIte, reduceCtorEq, Nat.reduceEqDiff, implies_true, forall_const, lawV])
      refine ⟨fun ha => ⟨⟨by omega, by omega⟩, ⟨by omega, by omega⟩, ?_⟩, fun ha => ?_⟩
      · have ha : isHex (s.getD (i + 1) 0) = true := by simpa using ha
        (refine callV_pc (p_r1_IsHex _) ?_; simp only [lawG, ↓Xn, ↓Xo, ↓Xg, ↓Xd, ↓Xe, ↓Xf, Tryz.VΓ, Tryz.Γs, Xp, Xi, Nat.reduceAdd, Nat.reduceSub, Nat.reduceLT, Nat.reduceLeDiff, reduceIte, reduceCtorEq, Nat.reduceEqDiff, implies_true, forall_const, lawV])
        refine ⟨fun hb => ?_, fun hb => ⟨⟨by omega, by omega⟩, ⟨by omega, by omega⟩, ?_⟩⟩
        · have hb : isHex (s.getD (i + 2) 0) = false := by simpa using hb
          rw [ha, hb]; rfl
        · have hb : isHex (s.getD (i + 2) 0) = true := by simpa using hb
          (refine callD_pc (p_r3_digit _ ha) ?_; simp only [lawG, ↓Xn, ↓Xo, ↓Xg, ↓Xd, ↓Xe, ↓Xf, Tryz.VΓ, Tryz.Γs, Xp, Xi, Nat.reduceAdd, Nat.reduceSub, Nat.reduceLT, Nat.reduceLeDiff, reduceIte, reduceCtorEq, Nat.reduceEqDiff, implies_true, forall_const, lawV])
          refine ⟨⟨by omega, by omega⟩, ⟨by omega, by omega⟩, ?_⟩
          (refine callD_pc (p_r3_digit _ hb) ?_; simp only [lawG, ↓Xn, ↓Xo, ↓Xg, ↓Xd, ↓Xe, ↓Xf, Tryz.VΓ, Tryz.Γs, Xp, Xi, Nat.reduceAdd, Nat.reduceSub, Nat.reduceLT, Nat.reduceLeDiff, reduceIte, reduceCtorEq, Nat.reduceEqDiff, implies_true, forall_const, lawV])
          refine ⟨(OkD_fast (by kernel_rfl)), ?_⟩
          rw [unhex_arith _ _ ha hb, ha, hb]; rfl
      · have ha : isHex (s.getD (i + 1) 0) = false := by simpa using ha
        rw [ha]; rfl
  · have hl : ¬ i + 2 < s.length := (by simp at hl; omega)
    rw [if_neg hl]; rfl
theorem p_r3_Escape (c : UInt8) : PC Tryz.V 99 [.int .u8 c.toNat] (.str (esc c)) := by
  have hc := c.toNat_lt
  have d1 := digs_at (c.toNat / 16) (by omega)
  have d2 := digs_at (c.toNat % 16) (by omega)
  have key := all256 (p := fun c => decide (divI .quo .u8 (c.toNat : Int) 16 = ((c.toNat / 16 : Nat) : Int) ∧ divI .rem .u8 (c.toNat : Int) 16 = ((c.toNat % 16 : Nat) : Int))) (by decide +kernel) c
  obtain ⟨s1, s2⟩ := of_decide_eq_true key
  have ec := esc_cells c
  have e1 : ([.int .u8 37, .int .u8 ((hexU (c.toNat / 16)).toNat : Int), .int .u8 ((hexU (c.toNat % 16)).toNat : Int)] : List SV).map unU8 = esc c := by rw [← ec, unU8_map]
  refine pc_of 3000 Tryz.func99 rfl Tryz.ntmps99 Tryz.results99 Tryz.call99 (by simp) (by simp [flat, flat.flatL]) (by simp [flat, flat.flatL]) ?_
  simp only [lawG, ↓Xn, ↓Xo, ↓Xg, ↓Xd, ↓Xe, ↓Xf, Tryz.VΓ, Tryz.Γs, Xp, Xi, Nat.reduceAdd, Nat.reduceSub, Nat.reduceLT, Nat.reduceLeDiff, reduceIte, reduceCtorEq, Nat.reduceEqDiff, implies_true, forall_const, lawV, s1, s2, Int.toNat_natCast, d1, d2]
  have e2 : ([.int .u8 37, .int .u8 ((hexU (c.toNat / 16)).toNat : Int), .int .u8 ((hexU (c.toNat % 16)).toNat : Int)] : List SV).all isU8 = true := by rw [← ec, isU8_map]
  simp only [List.map_cons, List.map_nil] at e1
  simp only [List.all_cons, List.all_nil, Bool.and_true] at e2
  exact ⟨by decide, ⟨by omega, by omega⟩, by decide, ⟨by omega, by omega⟩, by omega, e2, (OkD_fast (by kernel_rfl)), by rw [e1]⟩
end Go.Proofs.YtcndmooeglfilaaGreatDoor
/- The walk of the reference's Normalize. -/
set_option linter.all false
set_option maxRecDepth 20000
namespace Go.Proofs.YtcndmooeglfilaaGreatDoor
open Go Vc Go.RowKit Wf
def RnI (also s : Bytes) (σ : St) : Prop := ∃ (i : Nat) (x : SV) (d : Bytes), lk 0 σ.t = some (.str s) ∧ lk 1 σ.t = some (.str also) ∧ lk 6 σ.t = some x ∧ lk 7 σ.t = some (.int .i64 i) ∧ i ≤ s.length ∧ d.length ≤ 3 * i ∧ Sl 5 1 0 x σ.b (d.map u8S) d.length ∧ comb d (normU also (units (s.drop i))) = normU also (units s)
theorem rn_mk {also s : Bytes} {t : List (Nat × SV)} {b : List Res} {i i' : Nat} {x : SV} {d : Bytes} (h0 : lk 0 t = some (.str s)) (h1 : lk 1 t = some (.str also)) (h6 : lk 6 t = some x) (h7 : lk 7 t = some (.int .i64 i')) (h : i' ≤ s.length ∧ d.length ≤ 3 * i') (ht : Sl 5 1 0 x b (d.map u8S) d.length)
    (hn : comb d (normU also (units (s.drop i'))) = normU also (units s)) (hlt : i < i') : RnI also s ⟨t, b⟩ ∧ NoM s ⟨t, b⟩ < s.length - i :=
  ⟨⟨i', x, d, h0, h1, h6, h7, h.1, h.2, ht, hn⟩, by rw [NoM_eq h7]; omega⟩
set_option maxRecDepth 20000 in
set_option maxHeartbeats 4000000 in
theorem p_r3_Normalize (s also : Bytes) (ha : also.length ≤ 1000) : PC Tryz.V 72 [.str s, .str also] (.tup [.str (pctNorm also s).1, .int .i64 (pctNorm also s).2]) := by
  refine pc_of 3000 Tryz.func72 rfl Tryz.ntmps72 Tryz.results72 Tryz.call72 (by simp) (by simp [flat, flat.flatL]) (by simp [flat, flat.flatL]) ?_
  simp only [lawG, ↓Xn, ↓Xo, ↓Xg, ↓Xd, ↓Xe, ↓Xf, Tryz.VΓ, Tryz.Γs, Xp, Xi, Nat.reduceAdd, Nat.reduceSub, Nat.reduceLT, Nat.reduceLeDiff, reduceIte, reduceCtorEq, Nat.reduceEqDiff, implies_true, forall_const, lawV]
  unfold pctNorm
  refine ⟨fun hl => ?_, fun hl => ?_⟩
  · have hl : 16384 < s.length := (by simp at hl; omega)
    rw [if_pos hl]
  have hl : s.length ≤ 16384 := (by simp at hl; omega)
  rw [if_neg (by omega)]
  refine loopV_mk (RnI also s) (NoM s) ⟨0, .nils, [], rfl, rfl, rfl, rfl, by omega, by simp, .inl ⟨rfl, rfl, rfl⟩, comb_nil _ (normU_err also _)⟩ ?_
  rintro ⟨t, b⟩ ⟨i, x, d, h0, h1, h6, h7, hi, hd, ht, hn⟩
  simp only at h0 h1 h6 h7 ht
  rw [NoM_eq h7]
  by_cases hlt : i < s.length
  · have hu := units_step hlt
    have hg : s.getD i 0 = s[i] := by simp [List.getD, hlt]
    simp only [lawG, ↓Xn, ↓Xo, ↓Xg, ↓Xd, ↓Xe, ↓Xf, Tryz.VΓ, Tryz.Γs, Xp, Xi, Nat.reduceAdd, Nat.reduceSub, Nat.reduceLT, Nat.reduceLeDiff, reduceIte, reduceCtorEq, Nat.reduceEqDiff, implies_true, forall_const, lawV, h0, h1, h6, h7]
    refine ⟨fun _ => ⟨⟨by omega, by omega⟩, fun hc => ⟨⟨by omega, by omega⟩, ?_⟩, fun hc => ?_⟩, fun h => absurd h (by simp; omega)⟩
    · have hc : ¬ s[i] = 37 := by
        intro e
        rw [hg, e] at hc
        simp at hc
      rw [if_neg hc] at hu
      rw [hu, normU] at hn
      rw [hg]
      have hn2 : keepB also s[i] = true → comb (d ++ [s[i]]) (normU also (units (s.drop (i + 1)))) = normU also (units s) := fun hk => by
        rw [← hn, if_pos hk, comb_comb]
      (refine callV_pc (p_r1_IsUnreserved s[i]) ?_; simp only [lawG, ↓Xn, ↓Xo, ↓Xg, ↓Xd, ↓Xe, ↓Xf, Tryz.VΓ, Tryz.Γs, Xp, Xi, Nat.reduceAdd, Nat.reduceSub, Nat.reduceLT, Nat.reduceLeDiff, reduceIte, reduceCtorEq, Nat.reduceEqDiff, implies_true, forall_const, lawV, h0, h1, h6, h7, hg])
      refine ⟨fun hq => ⟨⟨by omega, by omega⟩, ?_⟩, fun hq => ⟨⟨by omega, by omega⟩, ?_⟩⟩
      · have hq := not_t hq
        (refine callV_pc (p_r1_In s[i] also (by omega)) ?_; simp only [lawG, ↓Xn, ↓Xo, ↓Xg, ↓Xd, ↓Xe, ↓Xf, Tryz.VΓ, Tryz.Γs, Xp, Xi, Nat.reduceAdd, Nat.reduceSub, Nat.reduceLT, Nat.reduceLeDiff, reduceIte, reduceCtorEq, Nat.reduceEqDiff, implies_true, forall_const, lawV, h0, h1, h6, h7, hg])
        refine ⟨fun hq2 => ?_, fun hq2 => ⟨⟨by omega, by omega⟩, ?_⟩⟩
        · have hq2 := not_t hq2
          have hk : ¬ keepB also s[i] = true := by unfold keepB; rw [hq, hq2]; simp
          rw [if_neg hk] at hn
          have hres : normU also (units s) = ([], 1) := by rw [← hn]; rfl
          rw [hres]
        · have hq2 := not_f hq2
          have hk : keepB also s[i] = true := by unfold keepB; rw [hq2]; simp
          (rcases ht with ⟨rfl, hc0, hn0⟩ | ⟨j, rfl, hLj, hj⟩
           · obtain rfl : d = [] := by simpa using hc0
             simp only [lawG, ↓Xn, ↓Xo, ↓Xg, ↓Xd, ↓Xe, ↓Xf, Tryz.VΓ, Tryz.Γs, Xp, Xi, Nat.reduceAdd, Nat.reduceSub, Nat.reduceLT, Nat.reduceLeDiff, reduceIte, reduceCtorEq, Nat.reduceEqDiff, implies_true, forall_const, lawV, h0, h1, h6, h7, hg, at_new]
             refine ⟨by omega, ⟨by unfold maxLen; omega, by omega⟩, ⟨by omega, by omega⟩, rn_mk (i' := i + 1) (x := .o (b ++ [Res.own [u8S (s[i])] 5 1 1 true]).length 1) (d := [] ++ [s[i]]) h0 h1 rfl (by simp only [lk, reduceIte, Option.some.injEq, SV.int.injEq, true_and]; omega) ⟨by omega, by simp; omega⟩ (.inr ⟨_, rfl, by omega, at_new _ _⟩) (hn2 hk) (by omega)⟩
           · have hjl : j < b.length := (List.getElem?_eq_some_iff.1 hj).1
             have ho : ∀ X, (b ++ [X])[j]? = some (.own (d.map u8S) 5 1 d.length true) := fun X => at_old hj [X]
             simp only [lawG, ↓Xn, ↓Xo, ↓Xg, ↓Xd, ↓Xe, ↓Xf, Tryz.VΓ, Tryz.Γs, Xp, Xi, Nat.reduceAdd, Nat.reduceSub, Nat.reduceLT, Nat.reduceLeDiff, reduceIte, reduceCtorEq, Nat.reduceEqDiff, implies_true, forall_const, lawV, h0, h1, h6, h7, hg, at_new, ho]
             refine ⟨by omega, ⟨by unfold maxLen; omega, by omega⟩, ⟨by omega, by omega⟩, rn_mk (i' := i + 1) (x := .o (b ++ [Res.own [u8S (s[i])] 5 1 1 true]).length (d.length + 1)) (d := d ++ [s[i]]) h0 h1 rfl (by simp only [lk, reduceIte, Option.some.injEq, SV.int.injEq, true_and]; omega) ⟨by omega, by simp; omega⟩ (.inr ⟨(b ++ [Res.own [u8S (s[i])] 5 1 1 true]).length, by simp, by omega, by rw [List.getElem?_append_right (by simp)]; simp [u8S]⟩) (hn2 hk) (by omega)⟩)
      · have hq := not_f hq
        have hk : keepB also s[i] = true := by unfold keepB; rw [hq]; simp
        (rcases ht with ⟨rfl, hc0, hn0⟩ | ⟨j, rfl, hLj, hj⟩
         · obtain rfl : d = [] := by simpa using hc0
           simp only [lawG, ↓Xn, ↓Xo, ↓Xg, ↓Xd, ↓Xe, ↓Xf, Tryz.VΓ, Tryz.Γs, Xp, Xi, Nat.reduceAdd, Nat.reduceSub, Nat.reduceLT, Nat.reduceLeDiff, reduceIte, reduceCtorEq, Nat.reduceEqDiff, implies_true, forall_const, lawV, h0, h1, h6, h7, hg, at_new]
           refine ⟨by omega, ⟨by unfold maxLen; omega, by omega⟩, ⟨by omega, by omega⟩, rn_mk (i' := i + 1) (x := .o (b ++ [Res.own [u8S (s[i])] 5 1 1 true]).length 1) (d := [] ++ [s[i]]) h0 h1 rfl (by simp only [lk, reduceIte, Option.some.injEq, SV.int.injEq, true_and]; omega) ⟨by omega, by simp; omega⟩ (.inr ⟨_, rfl, by omega, at_new _ _⟩) (hn2 hk) (by omega)⟩
         · have hjl : j < b.length := (List.getElem?_eq_some_iff.1 hj).1
           have ho : ∀ X, (b ++ [X])[j]? = some (.own (d.map u8S) 5 1 d.length true) := fun X => at_old hj [X]
           simp only [lawG, ↓Xn, ↓Xo, ↓Xg, ↓Xd, ↓Xe, ↓Xf, Tryz.VΓ, Tryz.Γs, Xp, Xi, Nat.reduceAdd, Nat.reduceSub, Nat.reduceLT, Nat.reduceLeDiff, reduceIte, reduceCtorEq, Nat.reduceEqDiff, implies_true, forall_const, lawV, h0, h1, h6, h7, hg, at_new, ho]
           refine ⟨by omega, ⟨by unfold maxLen; omega, by omega⟩, ⟨by omega, by omega⟩, rn_mk (i' := i + 1) (x := .o (b ++ [Res.own [u8S (s[i])] 5 1 1 true]).length (d.length + 1)) (d := d ++ [s[i]]) h0 h1 rfl (by simp only [lk, reduceIte, Option.some.injEq, SV.int.injEq, true_and]; omega) ⟨by omega, by simp; omega⟩ (.inr ⟨(b ++ [Res.own [u8S (s[i])] 5 1 1 true]).length, by simp, by omega, by rw [List.getElem?_append_right (by simp)]; simp [u8S]⟩) (hn2 hk) (by omega)⟩)
    · have hc : s[i] = 37 := by
        have : s.getD i 0 = 37 := by
          rw [← UInt8.toNat_inj]
          have e37 : (37 : UInt8).toNat = 37 := rfl
          have h2 := bne_eq_false_iff_eq.1 hc
          omega
        rw [← hg]; exact this
      rw [if_pos hc] at hu
      have pe := p_r3_escape s i hlt hc (by omega)
      cases he : escAt s i with
      | none =>
        rw [he] at pe hu
        simp only at hu
        rw [hu] at hn
        have hres : normU also (units s) = ([], 2) := by rw [← hn]; rfl
        rw [hres]
        (refine callV_pc pe ?_; simp only [lawG, ↓Xn, ↓Xo, ↓Xg, ↓Xd, ↓Xe, ↓Xf, Tryz.VΓ, Tryz.Γs, Xp, Xi, Nat.reduceAdd, Nat.reduceSub, Nat.reduceLT, Nat.reduceLeDiff, reduceIte, reduceCtorEq, Nat.reduceEqDiff, implies_true, forall_const, lawV, h0, h1, h6, h7, Option.isSome_none])
      | some v =>
        rw [he] at pe hu
        have hx := he
        unfold escAt at hx
        obtain ⟨⟨a, bb, r⟩, hp, hv⟩ := Option.map_eq_some_iff.1 hx
        simp only at hv
        rw [hp] at hu
        simp only at hu
        have hi3 : i + 3 ≤ s.length := by
          obtain ⟨h1, -, -⟩ := hexPair_some hp
          have := congrArg List.length h1
          simp at this
          omega
        have hn2 : comb (d ++ normB v) (normU also (units (s.drop (i + 2 + 1)))) = normU also (units s) := by
          rw [← hn, hu, normU, comb_comb, hv]
        simp only [Option.getD_some, Option.isSome_some] at pe
        (refine callV_pc pe ?_; simp only [lawG, ↓Xn, ↓Xo, ↓Xg, ↓Xd, ↓Xe, ↓Xf, Tryz.VΓ, Tryz.Γs, Xp, Xi, Nat.reduceAdd, Nat.reduceSub, Nat.reduceLT, Nat.reduceLeDiff, reduceIte, reduceCtorEq, Nat.reduceEqDiff, implies_true, forall_const, lawV, h0, h1, h6, h7])
        (refine callV_pc (p_r1_IsUnreserved v) ?_; simp only [lawG, ↓Xn, ↓Xo, ↓Xg, ↓Xd, ↓Xe, ↓Xf, Tryz.VΓ, Tryz.Γs, Xp, Xi, Nat.reduceAdd, Nat.reduceSub, Nat.reduceLT, Nat.reduceLeDiff, reduceIte, reduceCtorEq, Nat.reduceEqDiff, implies_true, forall_const, lawV, h0, h1, h6, h7])
        refine ⟨fun hq => ?_, fun hq => ?_⟩
        · have hn3 : comb (d ++ [v]) (normU also (units (s.drop (i + 2 + 1)))) = normU also (units s) := by
            rw [← hn2]; unfold normB; rw [if_pos hq]
          (rcases ht with ⟨rfl, hc0, hn0⟩ | ⟨j, rfl, hLj, hj⟩
           · obtain rfl : d = [] := by simpa using hc0
             simp only [lawG, ↓Xn, ↓Xo, ↓Xg, ↓Xd, ↓Xe, ↓Xf, Tryz.VΓ, Tryz.Γs, Xp, Xi, Nat.reduceAdd, Nat.reduceSub, Nat.reduceLT, Nat.reduceLeDiff, reduceIte, reduceCtorEq, Nat.reduceEqDiff, implies_true, forall_const, lawV, h0, h1, h6, h7, hg, at_new]
             refine ⟨by omega, ⟨by unfold maxLen; omega, by omega⟩, ⟨by omega, by omega⟩, ⟨by omega, by omega⟩, rn_mk (i' := i + 2 + 1) (x := .o (b ++ [Res.own [u8S (v)] 5 1 1 true]).length 1) (d := [] ++ [v]) h0 h1 rfl (by simp only [lk, reduceIte, Option.some.injEq, SV.int.injEq, true_and]; omega) ⟨by omega, by simp; omega⟩ (.inr ⟨_, rfl, by omega, at_new _ _⟩) (hn3) (by omega)⟩
           · have hjl : j < b.length := (List.getElem?_eq_some_iff.1 hj).1
             have ho : ∀ X, (b ++ [X])[j]? = some (.own (d.map u8S) 5 1 d.length true) := fun X => at_old hj [X]
             simp only [lawG, ↓Xn, ↓Xo, ↓Xg, ↓Xd, ↓Xe, ↓Xf, Tryz.VΓ, Tryz.Γs, Xp, Xi, Nat.reduceAdd, Nat.reduceSub, Nat.reduceLT, Nat.reduceLeDiff, reduceIte, reduceCtorEq, Nat.reduceEqDiff, implies_true, forall_const, lawV, h0, h1, h6, h7, hg, at_new, ho]
             refine ⟨by omega, ⟨by unfold maxLen; omega, by omega⟩, ⟨by omega, by omega⟩, ⟨by omega, by omega⟩, rn_mk (i' := i + 2 + 1) (x := .o (b ++ [Res.own [u8S (v)] 5 1 1 true]).length (d.length + 1)) (d := d ++ [v]) h0 h1 rfl (by simp only [lk, reduceIte, Option.some.injEq, SV.int.injEq, true_and]; omega) ⟨by omega, by simp; omega⟩ (.inr ⟨(b ++ [Res.own [u8S (v)] 5 1 1 true]).length, by simp, by omega, by rw [List.getElem?_append_right (by simp)]; simp [u8S]⟩) (hn3) (by omega)⟩)
        · have hn3 : comb (d ++ esc v) (normU also (units (s.drop (i + 2 + 1)))) = normU also (units s) := by
            rw [← hn2]; unfold normB; rw [if_neg (by simp [hq])]
          (refine callV_pc (p_r3_Escape v) ?_; simp only [lawG, ↓Xn, ↓Xo, ↓Xg, ↓Xd, ↓Xe, ↓Xf, Tryz.VΓ, Tryz.Γs, Xp, Xi, Nat.reduceAdd, Nat.reduceSub, Nat.reduceLT, Nat.reduceLeDiff, reduceIte, reduceCtorEq, Nat.reduceEqDiff, implies_true, forall_const, lawV, h0, h1, h6, h7])
          rcases ht with ⟨rfl, hc0, hn0⟩ | ⟨j, rfl, hLj, hj⟩
          · obtain rfl : d = [] := by simpa using hc0
            simp only [lawG, ↓Xn, ↓Xo, ↓Xg, ↓Xd, ↓Xe, ↓Xf, Tryz.VΓ, Tryz.Γs, Xp, Xi, Nat.reduceAdd, Nat.reduceSub, Nat.reduceLT, Nat.reduceLeDiff, reduceIte, reduceCtorEq, Nat.reduceEqDiff, implies_true, forall_const, lawV, h0, h1, h6, h7]
            exact ⟨⟨one_u8 _, by simp [esc]; unfold maxLen; omega, by simp [esc]⟩, ⟨by omega, by omega⟩, ⟨by omega, by omega⟩, rn_mk (i' := i + 2 + 1) (d := [] ++ esc v) h0 h1 rfl (by simp only [lk, reduceIte, Option.some.injEq, SV.int.injEq, true_and]; omega) ⟨by omega, by simp [esc]; omega⟩ (.inr ⟨b.length, rfl, by omega, at_new _ _⟩) hn3 (by omega)⟩
          · simp only [lawG, ↓Xn, ↓Xo, ↓Xg, ↓Xd, ↓Xe, ↓Xf, Tryz.VΓ, Tryz.Γs, Xp, Xi, Nat.reduceAdd, Nat.reduceSub, Nat.reduceLT, Nat.reduceLeDiff, reduceIte, reduceCtorEq, Nat.reduceEqDiff, implies_true, forall_const, lawV, h0, h1, h6, h7, hj]
            exact ⟨⟨one_u8 _, by simp [esc]; unfold maxLen; omega, by simp [esc]; omega⟩, ⟨by omega, by omega⟩, ⟨by omega, by omega⟩, rn_mk (i' := i + 2 + 1) (d := d ++ esc v) h0 h1 rfl (by simp only [lk, reduceIte, Option.some.injEq, SV.int.injEq, true_and]; omega) ⟨by omega, by simp [esc]; omega⟩ (.inr ⟨b.length, by simp, by omega, by rw [List.getElem?_append_right (by simp)]; simp⟩) hn3 (by omega)⟩
  · have hie : i = s.length := by omega
    subst hie
    rw [List.drop_length, units_nil] at hn
    have hres : normU also (units s) = (d, 0) := by rw [← hn]; simp [normU, comb]
    rw [hres]
    rcases ht with ⟨rfl, hc0, hn0⟩ | ⟨j, rfl, hLj, hj⟩
    · obtain rfl : d = [] := by simpa using hc0
      simp only [lawG, ↓Xn, ↓Xo, ↓Xg, ↓Xd, ↓Xe, ↓Xf, Tryz.VΓ, Tryz.Γs, Xp, Xi, Nat.reduceAdd, Nat.reduceSub, Nat.reduceLT, Nat.reduceLeDiff, reduceIte, reduceCtorEq, Nat.reduceEqDiff, implies_true, forall_const, lawV, h0, h1, h6, h7]
      exact fun h => absurd h (by simp)
    · simp only [lawG, ↓Xn, ↓Xo, ↓Xg, ↓Xd, ↓Xe, ↓Xf, Tryz.VΓ, Tryz.Γs, Xp, Xi, Nat.reduceAdd, Nat.reduceSub, Nat.reduceLT, Nat.reduceLeDiff, reduceIte, reduceCtorEq, Nat.reduceEqDiff, implies_true, forall_const, lawV, h0, h1, h6, h7, hj]
      refine ⟨fun h => absurd h (by simp), fun _ => ⟨isU8_map d, ?_⟩⟩
      rw [unU8_map]
end Go.Proofs.YtcndmooeglfilaaGreatDoor
/- The walks of Decode and Encode, in the program and in the reference. -/
set_option linter.all false
set_option maxRecDepth 20000
namespace Go.Proofs.YtcndmooeglfilaaGreatDoor
open Go Vc Go.RowKit Wf
def decGo : List PU → Bytes × Int
  | [] => ([], 0)
  | .bad :: _ => ([], 2)
  | .lit c :: r => comb [c] (decGo r)
  | .hex a b :: r => comb [unhex a b] (decGo r)
theorem decGo_eq : ∀ l : List PU, decGo l = if PU.bad ∈ l then ([], 2) else (l.map PU.val, 0)
  | [] => rfl
  | .bad :: r => by simp [decGo]
  | .lit c :: r => by
    rw [decGo, decGo_eq r]
    by_cases h : PU.bad ∈ r
    · simp [h, comb]
    · simp [h, comb, PU.val]
  | .hex a b :: r => by
    rw [decGo, decGo_eq r]
    by_cases h : PU.bad ∈ r
    · simp [h, comb]
    · simp [h, comb, PU.val]
theorem decGo_err (l : List PU) : (decGo l).2 ≠ 0 → (decGo l).1 = [] := by
  rw [decGo_eq]
  split
  · intro _; rfl
  · intro h; exact absurd rfl h
def DcI (s : Bytes) (σ : St) : Prop := ∃ (i : Nat) (x : SV) (d : Bytes), lk 0 σ.t = some (.str s) ∧ lk 4 σ.t = some x ∧ lk 5 σ.t = some (.int .i64 i) ∧ i ≤ s.length ∧ d.length ≤ i ∧ Sl 5 1 0 x σ.b (d.map u8S) d.length ∧ comb d (decGo (units (s.drop i))) = decGo (units s)
def DcM (s : Bytes) (σ : St) : Nat := match lk 5 σ.t with
  | some (.int _ k) => s.length - k.toNat
  | _ => 0
theorem DcM_eq {s : Bytes} {σ : St} {k : Nat} (h : lk 5 σ.t = some (.int .i64 k)) : DcM s σ = s.length - k := by simp [DcM, h]
theorem dc_mk {s : Bytes} {t : List (Nat × SV)} {b : List Res} {i i' : Nat} {x : SV} {d : Bytes} (h0 : lk 0 t = some (.str s)) (h4 : lk 4 t = some x) (h5 : lk 5 t = some (.int .i64 i')) (h : i' ≤ s.length ∧ d.length ≤ i') (ht : Sl 5 1 0 x b (d.map u8S) d.length)
    (hn : comb d (decGo (units (s.drop i'))) = decGo (units s)) (hlt : i < i') : DcI s ⟨t, b⟩ ∧ DcM s ⟨t, b⟩ < s.length - i :=
  ⟨⟨i', x, d, h0, h4, h5, h.1, h.2, ht, hn⟩, by rw [DcM_eq h5]; omega⟩
set_option maxRecDepth 20000 in
set_option maxHeartbeats 4000000 in
theorem p_Decode (s : Bytes) : PC Tryz.V 63 [.str s] (.tup [.str (pctDecode s).1, .int .i64 (pctDecode s).2]) := by
  have hpd : pctDecode s = if 16384 < s.length then ([], 5) else decGo (units s) := by unfold pctDecode; rw [decGo_eq]
  rw [hpd]
  refine pc_of 3000 Tryz.func63 rfl Tryz.ntmps63 Tryz.results63 Tryz.call63 (by simp) (by simp [flat, flat.flatL]) (by simp [flat, flat.flatL]) ?_
  simp only [lawG, ↓Xn, ↓Xo, ↓Xg, ↓Xd, ↓Xe, ↓Xf, Tryz.VΓ, Tryz.Γs, Xp, Xi, Nat.reduceAdd, Nat.reduceSub, Nat.reduceLT, Nat.reduceLeDiff, reduceIte, reduceCtorEq, Nat.reduceEqDiff, implies_true, forall_const, lawV]
  refine ⟨fun hl => ?_, fun hl => ?_⟩
  · have hl : 16384 < s.length := (by simp at hl; omega)
    rw [if_pos hl]
  have hl : s.length ≤ 16384 := (by simp at hl; omega)
  rw [if_neg (by omega)]
  refine loopV_mk (DcI s) (DcM s) ⟨0, .nils, [], rfl, rfl, rfl, by omega, by simp, .inl ⟨rfl, rfl, rfl⟩, comb_nil _ (decGo_err _)⟩ ?_
  rintro ⟨t, b⟩ ⟨i, x, d, h0, h4, h5, hi, hd, ht, hn⟩
  simp only at h0 h4 h5 ht
  rw [DcM_eq h5]
  by_cases hlt : i < s.length
  · have hu := units_step hlt
    have hg : s.getD i 0 = s[i] := by simp [List.getD, hlt]
    simp only [lawG, ↓Xn, ↓Xo, ↓Xg, ↓Xd, ↓Xe, ↓Xf, Tryz.VΓ, Tryz.Γs, Xp, Xi, Nat.reduceAdd, Nat.reduceSub, Nat.reduceLT, Nat.reduceLeDiff, reduceIte, reduceCtorEq, Nat.reduceEqDiff, implies_true, forall_const, lawV, h0, h4, h5]
    refine ⟨fun _ => ⟨⟨by omega, by omega⟩, fun hc => ?_, fun hc => ?_⟩, fun h => absurd h (by simp; omega)⟩
    · have hc : s[i] = 37 := by
        rw [byte_is (n := 37) hlt 37 rfl] at hc
        simpa using hc
      rw [if_pos hc] at hu
      have pe := p_escaped s i hlt (by omega)
      cases he : escAt s i with
      | none =>
        rw [he] at pe hu
        simp only at hu
        rw [hu] at hn
        have hres : decGo (units s) = ([], 2) := by rw [← hn]; rfl
        rw [hres]
        (refine callV_pc pe ?_; simp only [lawG, ↓Xn, ↓Xo, ↓Xg, ↓Xd, ↓Xe, ↓Xf, Tryz.VΓ, Tryz.Γs, Xp, Xi, Nat.reduceAdd, Nat.reduceSub, Nat.reduceLT, Nat.reduceLeDiff, reduceIte, reduceCtorEq, Nat.reduceEqDiff, implies_true, forall_const, lawV, h0, h4, h5, Option.isSome_none])
      | some v =>
        rw [he] at pe hu
        have hx := he
        unfold escAt at hx
        obtain ⟨⟨a, bb, r⟩, hp, hv⟩ := Option.map_eq_some_iff.1 hx
        simp only at hv
        rw [hp] at hu
        simp only at hu
        have hi3 : i + 3 ≤ s.length := by
          obtain ⟨h1, -, -⟩ := hexPair_some hp
          have := congrArg List.length h1
          simp at this
          omega
        have hn2 : comb (d ++ [v]) (decGo (units (s.drop (i + 2 + 1)))) = decGo (units s) := by
          rw [← hn, hu, decGo, comb_comb, hv]
        simp only [Option.getD_some, Option.isSome_some] at pe
        (refine callV_pc pe ?_; simp only [lawG, ↓Xn, ↓Xo, ↓Xg, ↓Xd, ↓Xe, ↓Xf, Tryz.VΓ, Tryz.Γs, Xp, Xi, Nat.reduceAdd, Nat.reduceSub, Nat.reduceLT, Nat.reduceLeDiff, reduceIte, reduceCtorEq, Nat.reduceEqDiff, implies_true, forall_const, lawV, h0, h4, h5])
        (rcases ht with ⟨rfl, hc0, hn0⟩ | ⟨j, rfl, hLj, hj⟩
         · obtain rfl : d = [] := by simpa using hc0
           simp only [lawG, ↓Xn, ↓Xo, ↓Xg, ↓Xd, ↓Xe, ↓Xf, Tryz.VΓ, Tryz.Γs, Xp, Xi, Nat.reduceAdd, Nat.reduceSub, Nat.reduceLT, Nat.reduceLeDiff, reduceIte, reduceCtorEq, Nat.reduceEqDiff, implies_true, forall_const, lawV, h0, h4, h5, hg, at_new]
           refine ⟨⟨by omega, by omega⟩, by omega, ⟨by unfold maxLen; omega, by omega⟩, ⟨by omega, by omega⟩, dc_mk (i' := i + 2 + 1) (x := .o (b ++ [Res.own [u8S (v)] 5 1 1 true]).length 1) (d := [] ++ [v]) h0 rfl (by simp only [lk, reduceIte, Option.some.injEq, SV.int.injEq, true_and]; omega) ⟨by omega, by simp only [List.nil_append, List.length_cons, List.length_nil]; omega⟩ (.inr ⟨_, rfl, by omega, at_new _ _⟩) (hn2) (by omega)⟩
         · have hjl : j < b.length := (List.getElem?_eq_some_iff.1 hj).1
           have ho : ∀ X, (b ++ [X])[j]? = some (.own (d.map u8S) 5 1 d.length true) := fun X => at_old hj [X]
           simp only [lawG, ↓Xn, ↓Xo, ↓Xg, ↓Xd, ↓Xe, ↓Xf, Tryz.VΓ, Tryz.Γs, Xp, Xi, Nat.reduceAdd, Nat.reduceSub, Nat.reduceLT, Nat.reduceLeDiff, reduceIte, reduceCtorEq, Nat.reduceEqDiff, implies_true, forall_const, lawV, h0, h4, h5, hg, at_new, ho]
           refine ⟨⟨by omega, by omega⟩, by omega, ⟨by unfold maxLen; omega, by omega⟩, ⟨by omega, by omega⟩, dc_mk (i' := i + 2 + 1) (x := .o (b ++ [Res.own [u8S (v)] 5 1 1 true]).length (d.length + 1)) (d := d ++ [v]) h0 rfl (by simp only [lk, reduceIte, Option.some.injEq, SV.int.injEq, true_and]; omega) ⟨by omega, by simp; omega⟩ (.inr ⟨(b ++ [Res.own [u8S (v)] 5 1 1 true]).length, by simp, by omega, by rw [List.getElem?_append_right (by simp)]; simp [u8S]⟩) (hn2) (by omega)⟩)
    · have hc : ¬ s[i] = 37 := by
        rw [byte_is (n := 37) hlt 37 rfl] at hc
        simpa using hc
      rw [if_neg hc] at hu
      rw [hu, decGo, comb_comb] at hn
      rw [hg]
      (rcases ht with ⟨rfl, hc0, hn0⟩ | ⟨j, rfl, hLj, hj⟩
       · obtain rfl : d = [] := by simpa using hc0
         simp only [lawG, ↓Xn, ↓Xo, ↓Xg, ↓Xd, ↓Xe, ↓Xf, Tryz.VΓ, Tryz.Γs, Xp, Xi, Nat.reduceAdd, Nat.reduceSub, Nat.reduceLT, Nat.reduceLeDiff, reduceIte, reduceCtorEq, Nat.reduceEqDiff, implies_true, forall_const, lawV, h0, h4, h5, hg, at_new]
         refine ⟨ by omega, ⟨by unfold maxLen; omega, by omega⟩, ⟨by omega, by omega⟩, dc_mk (i' := i + 1) (x := .o (b ++ [Res.own [u8S (s[i])] 5 1 1 true]).length 1) (d := [] ++ [s[i]]) h0 rfl (by simp only [lk, reduceIte, Option.some.injEq, SV.int.injEq, true_and]; omega) ⟨by omega, by simp only [List.nil_append, List.length_cons, List.length_nil]; omega⟩ (.inr ⟨_, rfl, by omega, at_new _ _⟩) (hn) (by omega)⟩
       · have hjl : j < b.length := (List.getElem?_eq_some_iff.1 hj).1
         have ho : ∀ X, (b ++ [X])[j]? = some (.own (d.map u8S) 5 1 d.length true) := fun X => at_old hj [X]
         simp only [lawG, ↓Xn, ↓Xo, ↓Xg, ↓Xd, ↓Xe, ↓Xf, Tryz.VΓ, Tryz.Γs, Xp, Xi, Nat.reduceAdd, Nat.reduceSub, Nat.reduceLT, Nat.reduceLeDiff, reduceIte, reduceCtorEq, Nat.reduceEqDiff, implies_true, forall_const, lawV, h0, h4, h5, hg, at_new, ho]
         refine ⟨ by omega, ⟨by unfold maxLen; omega, by omega⟩, ⟨by omega, by omega⟩, dc_mk (i' := i + 1) (x := .o (b ++ [Res.own [u8S (s[i])] 5 1 1 true]).length (d.length + 1)) (d := d ++ [s[i]]) h0 rfl (by simp only [lk, reduceIte, Option.some.injEq, SV.int.injEq, true_and]; omega) ⟨by omega, by simp; omega⟩ (.inr ⟨(b ++ [Res.own [u8S (s[i])] 5 1 1 true]).length, by simp, by omega, by rw [List.getElem?_append_right (by simp)]; simp [u8S]⟩) (hn) (by omega)⟩)
  · have hie : i = s.length := by omega
    subst hie
    rw [List.drop_length, units_nil] at hn
    have hres : decGo (units s) = (d, 0) := by rw [← hn]; simp [decGo, comb]
    rw [hres]
    rcases ht with ⟨rfl, hc0, hn0⟩ | ⟨j, rfl, hLj, hj⟩
    · obtain rfl : d = [] := by simpa using hc0
      simp only [lawG, ↓Xn, ↓Xo, ↓Xg, ↓Xd, ↓Xe, ↓Xf, Tryz.VΓ, Tryz.Γs, Xp, Xi, Nat.reduceAdd, Nat.reduceSub, Nat.reduceLT, Nat.reduceLeDiff, reduceIte, reduceCtorEq, Nat.reduceEqDiff, implies_true, forall_const, lawV, h0, h4, h5]
      exact fun h => absurd h (by simp)
    · simp only [lawG, ↓Xn, ↓Xo, ↓Xg, ↓Xd, ↓Xe, ↓Xf, Tryz.VΓ, Tryz.Γs, Xp, Xi, Nat.reduceAdd, Nat.reduceSub, Nat.reduceLT, Nat.reduceLeDiff, reduceIte, reduceCtorEq, Nat.reduceEqDiff, implies_true, forall_const, lawV, h0, h4, h5, hj]
      refine ⟨fun h => absurd h (by simp), fun _ => ⟨isU8_map d, ?_⟩⟩
      rw [unU8_map]
set_option maxRecDepth 20000 in
set_option maxHeartbeats 4000000 in
theorem p_r3_Decode (s : Bytes) : PC Tryz.V 53 [.str s] (.tup [.str (pctDecode s).1, .int .i64 (pctDecode s).2]) := by
  have hpd : pctDecode s = if 16384 < s.length then ([], 5) else decGo (units s) := by unfold pctDecode; rw [decGo_eq]
  rw [hpd]
  refine pc_of 3000 Tryz.func53 rfl Tryz.ntmps53 Tryz.results53 Tryz.call53 (by simp) (by simp [flat, flat.flatL]) (by simp [flat, flat.flatL]) ?_
  simp only [lawG, ↓Xn, ↓Xo, ↓Xg, ↓Xd, ↓Xe, ↓Xf, Tryz.VΓ, Tryz.Γs, Xp, Xi, Nat.reduceAdd, Nat.reduceSub, Nat.reduceLT, Nat.reduceLeDiff, reduceIte, reduceCtorEq, Nat.reduceEqDiff, implies_true, forall_const, lawV]
  refine ⟨fun hl => ?_, fun hl => ?_⟩
  · have hl : 16384 < s.length := (by simp at hl; omega)
    rw [if_pos hl]
  have hl : s.length ≤ 16384 := (by simp at hl; omega)
  rw [if_neg (by omega)]
  refine loopV_mk (DcI s) (DcM s) ⟨0, .nils, [], rfl, rfl, rfl, by omega, by simp, .inl ⟨rfl, rfl, rfl⟩, comb_nil _ (decGo_err _)⟩ ?_
  rintro ⟨t, b⟩ ⟨i, x, d, h0, h4, h5, hi, hd, ht, hn⟩
  simp only at h0 h4 h5 ht
  rw [DcM_eq h5]
  by_cases hlt : i < s.length
  · have hu := units_step hlt
    have hg : s.getD i 0 = s[i] := by simp [List.getD, hlt]
    simp only [lawG, ↓Xn, ↓Xo, ↓Xg, ↓Xd, ↓Xe, ↓Xf, Tryz.VΓ, Tryz.Γs, Xp, Xi, Nat.reduceAdd, Nat.reduceSub, Nat.reduceLT, Nat.reduceLeDiff, reduceIte, reduceCtorEq, Nat.reduceEqDiff, implies_true, forall_const, lawV, h0, h4, h5]
    refine ⟨fun _ => ⟨⟨by omega, by omega⟩, fun hc => ?_, fun hc => ?_⟩, fun h => absurd h (by simp; omega)⟩
    · have hc : s[i] = 37 := by
        rw [byte_is (n := 37) hlt 37 rfl] at hc
        simpa using hc
      rw [if_pos hc] at hu
      have pe := p_r3_escape s i hlt hc (by omega)
      cases he : escAt s i with
      | none =>
        rw [he] at pe hu
        simp only at hu
        rw [hu] at hn
        have hres : decGo (units s) = ([], 2) := by rw [← hn]; rfl
        rw [hres]
        (refine callV_pc pe ?_; simp only [lawG, ↓Xn, ↓Xo, ↓Xg, ↓Xd, ↓Xe, ↓Xf, Tryz.VΓ, Tryz.Γs, Xp, Xi, Nat.reduceAdd, Nat.reduceSub, Nat.reduceLT, Nat.reduceLeDiff, reduceIte, reduceCtorEq, Nat.reduceEqDiff, implies_true, forall_const, lawV, h0, h4, h5, Option.isSome_none])
      | some v =>
        rw [he] at pe hu
        have hx := he
        unfold escAt at hx
        obtain ⟨⟨a, bb, r⟩, hp, hv⟩ := Option.map_eq_some_iff.1 hx
        simp only at hv
        rw [hp] at hu
        simp only at hu
        have hi3 : i + 3 ≤ s.length := by
          obtain ⟨h1, -, -⟩ := hexPair_some hp
          have := congrArg List.length h1
          simp at this
          omega
        have hn2 : comb (d ++ [v]) (decGo (units (s.drop (i + 2 + 1)))) = decGo (units s) := by
          rw [← hn, hu, decGo, comb_comb, hv]
        simp only [Option.getD_some, Option.isSome_some] at pe
        (refine callV_pc pe ?_; simp only [lawG, ↓Xn, ↓Xo, ↓Xg, ↓Xd, ↓Xe, ↓Xf, Tryz.VΓ, Tryz.Γs, Xp, Xi, Nat.reduceAdd, Nat.reduceSub, Nat.reduceLT, Nat.reduceLeDiff, reduceIte, reduceCtorEq, Nat.reduceEqDiff, implies_true, forall_const, lawV, h0, h4, h5])
        (rcases ht with ⟨rfl, hc0, hn0⟩ | ⟨j, rfl, hLj, hj⟩
         · obtain rfl : d = [] := by simpa using hc0
           simp only [lawG, ↓Xn, ↓Xo, ↓Xg, ↓Xd, ↓Xe, ↓Xf, Tryz.VΓ, Tryz.Γs, Xp, Xi, Nat.reduceAdd, Nat.reduceSub, Nat.reduceLT, Nat.reduceLeDiff, reduceIte, reduceCtorEq, Nat.reduceEqDiff, implies_true, forall_const, lawV, h0, h4, h5, hg, at_new]
           refine ⟨⟨by omega, by omega⟩, by omega, ⟨by unfold maxLen; omega, by omega⟩, ⟨by omega, by omega⟩, dc_mk (i' := i + 2 + 1) (x := .o (b ++ [Res.own [u8S (v)] 5 1 1 true]).length 1) (d := [] ++ [v]) h0 rfl (by simp only [lk, reduceIte, Option.some.injEq, SV.int.injEq, true_and]; omega) ⟨by omega, by simp only [List.nil_append, List.length_cons, List.length_nil]; omega⟩ (.inr ⟨_, rfl, by omega, at_new _ _⟩) (hn2) (by omega)⟩
         · have hjl : j < b.length := (List.getElem?_eq_some_iff.1 hj).1
           have ho : ∀ X, (b ++ [X])[j]? = some (.own (d.map u8S) 5 1 d.length true) := fun X => at_old hj [X]
           simp only [lawG, ↓Xn, ↓Xo, ↓Xg, ↓Xd, ↓Xe, ↓Xf, Tryz.VΓ, Tryz.Γs, Xp, Xi, Nat.reduceAdd, Nat.reduceSub, Nat.reduceLT, Nat.reduceLeDiff, reduceIte, reduceCtorEq, Nat.reduceEqDiff, implies_true, forall_const, lawV, h0, h4, h5, hg, at_new, ho]
           refine ⟨⟨by omega, by omega⟩, by omega, ⟨by unfold maxLen; omega, by omega⟩, ⟨by omega, by omega⟩, dc_mk (i' := i + 2 + 1) (x := .o (b ++ [Res.own [u8S (v)] 5 1 1 true]).length (d.length + 1)) (d := d ++ [v]) h0 rfl (by simp only [lk, reduceIte, Option.some.injEq, SV.int.injEq, true_and]; omega) ⟨by omega, by simp; omega⟩ (.inr ⟨(b ++ [Res.own [u8S (v)] 5 1 1 true]).length, by simp, by omega, by rw [List.getElem?_append_right (by simp)]; simp [u8S]⟩) (hn2) (by omega)⟩)
    · have hc : ¬ s[i] = 37 := by
        rw [byte_is (n := 37) hlt 37 rfl] at hc
        simpa using hc
      rw [if_neg hc] at hu
      rw [hu, decGo, comb_comb] at hn
      rw [hg]
      (rcases ht with ⟨rfl, hc0, hn0⟩ | ⟨j, rfl, hLj, hj⟩
       · obtain rfl : d = [] := by simpa using hc0
         simp only [lawG, ↓Xn, ↓Xo, ↓Xg, ↓Xd, ↓Xe, ↓Xf, Tryz.VΓ, Tryz.Γs, Xp, Xi, Nat.reduceAdd, Nat.reduceSub, Nat.reduceLT, Nat.reduceLeDiff, reduceIte, reduceCtorEq, Nat.reduceEqDiff, implies_true, forall_const, lawV, h0, h4, h5, hg, at_new]
         refine ⟨ by omega, ⟨by unfold maxLen; omega, by omega⟩, ⟨by omega, by omega⟩, dc_mk (i' := i + 1) (x := .o (b ++ [Res.own [u8S (s[i])] 5 1 1 true]).length 1) (d := [] ++ [s[i]]) h0 rfl (by simp only [lk, reduceIte, Option.some.injEq, SV.int.injEq, true_and]; omega) ⟨by omega, by simp only [List.nil_append, List.length_cons, List.length_nil]; omega⟩ (.inr ⟨_, rfl, by omega, at_new _ _⟩) (hn) (by omega)⟩
       · have hjl : j < b.length := (List.getElem?_eq_some_iff.1 hj).1
         have ho : ∀ X, (b ++ [X])[j]? = some (.own (d.map u8S) 5 1 d.length true) := fun X => at_old hj [X]
         simp only [lawG, ↓Xn, ↓Xo, ↓Xg, ↓Xd, ↓Xe, ↓Xf, Tryz.VΓ, Tryz.Γs, Xp, Xi, Nat.reduceAdd, Nat.reduceSub, Nat.reduceLT, Nat.reduceLeDiff, reduceIte, reduceCtorEq, Nat.reduceEqDiff, implies_true, forall_const, lawV, h0, h4, h5, hg, at_new, ho]
         refine ⟨ by omega, ⟨by unfold maxLen; omega, by omega⟩, ⟨by omega, by omega⟩, dc_mk (i' := i + 1) (x := .o (b ++ [Res.own [u8S (s[i])] 5 1 1 true]).length (d.length + 1)) (d := d ++ [s[i]]) h0 rfl (by simp only [lk, reduceIte, Option.some.injEq, SV.int.injEq, true_and]; omega) ⟨by omega, by simp; omega⟩ (.inr ⟨(b ++ [Res.own [u8S (s[i])] 5 1 1 true]).length, by simp, by omega, by rw [List.getElem?_append_right (by simp)]; simp [u8S]⟩) (hn) (by omega)⟩)
  · have hie : i = s.length := by omega
    subst hie
    rw [List.drop_length, units_nil] at hn
    have hres : decGo (units s) = (d, 0) := by rw [← hn]; simp [decGo, comb]
    rw [hres]
    rcases ht with ⟨rfl, hc0, hn0⟩ | ⟨j, rfl, hLj, hj⟩
    · obtain rfl : d = [] := by simpa using hc0
      simp only [lawG, ↓Xn, ↓Xo, ↓Xg, ↓Xd, ↓Xe, ↓Xf, Tryz.VΓ, Tryz.Γs, Xp, Xi, Nat.reduceAdd, Nat.reduceSub, Nat.reduceLT, Nat.reduceLeDiff, reduceIte, reduceCtorEq, Nat.reduceEqDiff, implies_true, forall_const, lawV, h0, h4, h5]
      exact fun h => absurd h (by simp)
    · simp only [lawG, ↓Xn, ↓Xo, ↓Xg, ↓Xd, ↓Xe, ↓Xf, Tryz.VΓ, Tryz.Γs, Xp, Xi, Nat.reduceAdd, Nat.reduceSub, Nat.reduceLT, Nat.reduceLeDiff, reduceIte, reduceCtorEq, Nat.reduceEqDiff, implies_true, forall_const, lawV, h0, h4, h5, hj]
      refine ⟨fun h => absurd h (by simp), fun _ => ⟨isU8_map d, ?_⟩⟩
      rw [unU8_map]
theorem enc_take {keep s : Bytes} {i : Nat} (h : i < s.length) : pctEncode keep (s.take (i + 1)) = pctEncode keep (s.take i) ++ encB keep s[i] := by
  unfold pctEncode
  rw [List.take_succ_eq_append_getElem h, List.flatMap_append, List.flatMap_cons, List.flatMap_nil, List.append_nil]
theorem sub_one {s : Bytes} {i : Nat} (h : i < s.length) : (s.take (i + 1)).drop i = [s[i]] := by
  rw [List.take_succ_eq_append_getElem h]
  exact List.drop_left' (by simp; omega)
def ReI (keep s : Bytes) (σ : St) : Prop := ∃ i : Nat, i ≤ s.length ∧ lk 0 σ.t = some (.str s) ∧ lk 1 σ.t = some (.str keep) ∧ lk 5 σ.t = some (.str (pctEncode keep (s.take i))) ∧ lk 6 σ.t = some (.int .i64 i)
def ReM (s : Bytes) (σ : St) : Nat := match lk 6 σ.t with
  | some (.int _ k) => s.length - k.toNat
  | _ => 0
theorem ReM_eq {s : Bytes} {σ : St} {k : Nat} (h : lk 6 σ.t = some (.int .i64 k)) : ReM s σ = s.length - k := by simp [ReM, h]
theorem enc_len_take (keep s : Bytes) (i : Nat) : (pctEncode keep (s.take i)).length ≤ 3 * s.length := by
  have := pctEncode_len keep (s.take i)
  have : (s.take i).length ≤ s.length := by simp; omega
  omega
theorem re_mk {keep s : Bytes} {t : List (Nat × SV)} {b : List Res} {i : Nat} (hi : i < s.length) (h0 : lk 0 t = some (.str s)) (h1 : lk 1 t = some (.str keep)) (h5 : lk 5 t = some (.str (pctEncode keep (s.take i) ++ encB keep s[i]))) (h6 : lk 6 t = some (.int .i64 (i + 1 : Nat))) : ReI keep s ⟨t, b⟩ ∧ ReM s ⟨t, b⟩ < s.length - i :=
  ⟨⟨i + 1, by omega, h0, h1, by rw [enc_take hi]; exact h5, h6⟩, by rw [ReM_eq h6]; omega⟩
set_option maxRecDepth 20000 in
set_option maxHeartbeats 4000000 in
theorem p_r3_Encode (s keep : Bytes) (hs : s.length ≤ 1000000) (hk : keep.length ≤ 1000) : PC Tryz.V 83 [.str s, .str keep] (.str (pctEncode keep s)) := by
  refine pc_of 3000 Tryz.func83 rfl Tryz.ntmps83 Tryz.results83 Tryz.call83 (by simp) (by simp [flat, flat.flatL]) (by simp [flat, flat.flatL]) ?_
  simp only [lawG, ↓Xn, ↓Xo, ↓Xg, ↓Xd, ↓Xe, ↓Xf, Tryz.VΓ, Tryz.Γs, Xp, Xi, Nat.reduceAdd, Nat.reduceSub, Nat.reduceLT, Nat.reduceLeDiff, reduceIte, reduceCtorEq, Nat.reduceEqDiff, implies_true, forall_const, lawV]
  refine loopV_mk (ReI keep s) (ReM s) ⟨0, by omega, rfl, rfl, rfl, rfl⟩ ?_
  rintro ⟨t, b⟩ ⟨i, hi, h0, h1, h5, h6⟩
  simp only at h0 h1 h5 h6
  rw [ReM_eq h6]
  have hel := enc_len_take keep s i
  by_cases hlt : i < s.length
  · have hg : s.getD i 0 = s[i] := by simp [List.getD, hlt]
    have hnat : ((s[i].toNat : Int) != 37) = (s[i] != 37) := by
      have h := byte_is (s := s) hlt 37 (n := 37) rfl
      rw [hg] at h
      show (!((s[i].toNat : Int) == 37)) = !(s[i] == 37)
      rw [h]
    have hb : encB keep s[i] = if unres s[i] || (s[i] != 37 && keep.contains s[i]) then [s[i]] else esc s[i] := rfl
    simp only [lawG, ↓Xn, ↓Xo, ↓Xg, ↓Xd, ↓Xe, ↓Xf, Tryz.VΓ, Tryz.Γs, Xp, Xi, Nat.reduceAdd, Nat.reduceSub, Nat.reduceLT, Nat.reduceLeDiff, reduceIte, reduceCtorEq, Nat.reduceEqDiff, implies_true, forall_const, lawV, h0, h1, h5, h6]
    refine ⟨fun _ => ⟨⟨by omega, by omega⟩, ?_⟩, fun h => absurd h (by simp; omega)⟩
    rw [hg]
    (refine callV_pc (p_r1_IsUnreserved s[i]) ?_; simp only [lawG, ↓Xn, ↓Xo, ↓Xg, ↓Xd, ↓Xe, ↓Xf, Tryz.VΓ, Tryz.Γs, Xp, Xi, Nat.reduceAdd, Nat.reduceSub, Nat.reduceLT, Nat.reduceLeDiff, reduceIte, reduceCtorEq, Nat.reduceEqDiff, implies_true, forall_const, lawV, h0, h1, h5, h6, hg])
    refine ⟨fun hq => ⟨⟨by omega, by omega⟩, fun h37 => ⟨⟨by omega, by omega⟩, ?_⟩, fun h37 => ⟨⟨by omega, by omega⟩, ?_⟩⟩, fun hq => ?_⟩
    · have e2 : List.contains keep s[i] = false → encB keep s[i] = esc s[i] := fun hin => by rw [hb, hq, hin]; simp
      have e1 : List.contains keep s[i] = true → encB keep s[i] = (s.take (i + 1)).drop i := fun hin => by rw [hb, hin, ← hnat, h37, sub_one hlt]; simp
      (refine callV_pc (p_r1_In s[i] keep (by omega)) ?_; simp only [lawG, ↓Xn, ↓Xo, ↓Xg, ↓Xd, ↓Xe, ↓Xf, Tryz.VΓ, Tryz.Γs, Xp, Xi, Nat.reduceAdd, Nat.reduceSub, Nat.reduceLT, Nat.reduceLeDiff, reduceIte, reduceCtorEq, Nat.reduceEqDiff, implies_true, forall_const, lawV, h0, h1, h5, h6, hg])
      refine ⟨fun hin => ⟨⟨by omega, by omega⟩, ⟨by omega, by omega, by omega⟩, by rw [sub_one hlt, List.length_singleton]; omega, ⟨by omega, by omega⟩, re_mk hlt h0 h1 (by rw [e1 hin]; rfl) (by simp only [lk, reduceIte, Option.some.injEq, SV.int.injEq, true_and]; omega)⟩, fun hin => ⟨⟨by omega, by omega⟩, ?_⟩⟩
      (refine callV_pc (p_r3_Escape s[i]) ?_; simp only [lawG, ↓Xn, ↓Xo, ↓Xg, ↓Xd, ↓Xe, ↓Xf, Tryz.VΓ, Tryz.Γs, Xp, Xi, Nat.reduceAdd, Nat.reduceSub, Nat.reduceLT, Nat.reduceLeDiff, reduceIte, reduceCtorEq, Nat.reduceEqDiff, implies_true, forall_const, lawV, h0, h1, h5, h6, hg])
      exact ⟨by rw [show (esc s[i]).length = 3 from rfl]; omega, ⟨by omega, by omega⟩, re_mk hlt h0 h1 (by rw [e2 hin]; rfl) (by simp only [lk, reduceIte, Option.some.injEq, SV.int.injEq, true_and]; omega)⟩
    · have e2 : encB keep s[i] = esc s[i] := by rw [hb, hq, ← hnat, h37]; simp
      (refine callV_pc (p_r3_Escape s[i]) ?_; simp only [lawG, ↓Xn, ↓Xo, ↓Xg, ↓Xd, ↓Xe, ↓Xf, Tryz.VΓ, Tryz.Γs, Xp, Xi, Nat.reduceAdd, Nat.reduceSub, Nat.reduceLT, Nat.reduceLeDiff, reduceIte, reduceCtorEq, Nat.reduceEqDiff, implies_true, forall_const, lawV, h0, h1, h5, h6, hg])
      exact ⟨by rw [show (esc s[i]).length = 3 from rfl]; omega, ⟨by omega, by omega⟩, re_mk hlt h0 h1 (by rw [e2]; rfl) (by simp only [lk, reduceIte, Option.some.injEq, SV.int.injEq, true_and]; omega)⟩
    · have e1 : encB keep s[i] = (s.take (i + 1)).drop i := by rw [hb, hq, sub_one hlt]; simp
      exact ⟨⟨by omega, by omega⟩, ⟨by omega, by omega, by omega⟩, by rw [sub_one hlt, List.length_singleton]; omega, ⟨by omega, by omega⟩, re_mk hlt h0 h1 (by rw [e1]; rfl) (by simp only [lk, reduceIte, Option.some.injEq, SV.int.injEq, true_and]; omega)⟩
  · have hie : i = s.length := by omega
    subst hie
    rw [List.take_length] at h5
    simp only [lawG, ↓Xn, ↓Xo, ↓Xg, ↓Xd, ↓Xe, ↓Xf, Tryz.VΓ, Tryz.Γs, Xp, Xi, Nat.reduceAdd, Nat.reduceSub, Nat.reduceLT, Nat.reduceLeDiff, reduceIte, reduceCtorEq, Nat.reduceEqDiff, implies_true, forall_const, lawV, h0, h1, h5, h6]
    exact fun h => absurd h (by simp)
def PeI (keep s : Bytes) (σ : St) : Prop := ∃ (i : Nat) (x : SV), i ≤ s.length ∧ lk 0 σ.t = some (.str s) ∧ lk 1 σ.t = some (.str keep) ∧ lk 5 σ.t = some (.p 0 0) ∧ lk 9 σ.t = some (.int .i64 s.length) ∧ lk 10 σ.t = some (.int .i64 i) ∧ 1 ≤ σ.b.length ∧ TxAt σ.b 0 1 x (pctEncode keep (s.take i))
def PeM (s : Bytes) (σ : St) : Nat := match lk 10 σ.t with
  | some (.int _ k) => s.length - k.toNat
  | _ => 0
theorem PeM_eq {s : Bytes} {σ : St} {k : Nat} (h : lk 10 σ.t = some (.int .i64 k)) : PeM s σ = s.length - k := by simp [PeM, h]
theorem pe_mk {keep s : Bytes} {t : List (Nat × SV)} {b : List Res} {i : Nat} {x : SV} (hi : i < s.length) (h0 : lk 0 t = some (.str s)) (h1 : lk 1 t = some (.str keep)) (h5 : lk 5 t = some (.p 0 0)) (h9 : lk 9 t = some (.int .i64 s.length)) (h10 : lk 10 t = some (.int .i64 (i + 1 : Nat))) (hb : 1 ≤ b.length) (ht : TxAt b 0 1 x (pctEncode keep (s.take i) ++ encB keep s[i])) : PeI keep s ⟨t, b⟩ ∧ PeM s ⟨t, b⟩ < s.length - i :=
  ⟨⟨i + 1, x, by omega, h0, h1, h5, h9, h10, hb, by rw [enc_take hi]; exact ht⟩, by rw [PeM_eq h10]; omega⟩
set_option maxRecDepth 20000 in
set_option maxHeartbeats 4000000 in
theorem p_Encode (s keep : Bytes) (hs : s.length ≤ 300000) : PC Tryz.V 103 [.str s, .str keep] (.str (pctEncode keep s)) := by
  refine pc_of 3000 Tryz.func103 rfl Tryz.ntmps103 Tryz.results103 Tryz.call103 (by simp) (by simp [flat, flat.flatL]) (by simp [flat, flat.flatL]) ?_
  simp only [lawG, ↓Xn, ↓Xo, ↓Xg, ↓Xd, ↓Xe, ↓Xf, Tryz.VΓ, Tryz.Γs, Xp, Xi, Nat.reduceAdd, Nat.reduceSub, Nat.reduceLT, Nat.reduceLeDiff, reduceIte, reduceCtorEq, Nat.reduceEqDiff, implies_true, forall_const, lawV]
  refine loopV_mk (PeI keep s) (PeM s) ⟨0, .nils, by omega, rfl, rfl, rfl, rfl, rfl, by simp, ⟨rfl, .inl ⟨rfl, rfl, rfl⟩, by omega⟩⟩ ?_
  rintro ⟨t, b⟩ ⟨i, x, hi, h0, h1, h5, h9, h10, hbl, ht⟩
  simp only at h0 h1 h5 h9 h10 hbl ht
  rw [PeM_eq h10]
  have hel := enc_len_take keep s i
  have hbox := ht.box
  by_cases hlt : i < s.length
  · have hg : s.getD i 0 = s[i] := by simp [List.getD, hlt]
    have hnat : ((s[i].toNat : Int) != 37) = (s[i] != 37) := by
      have h := byte_is (s := s) hlt 37 (n := 37) rfl
      rw [hg] at h
      show (!((s[i].toNat : Int) == 37)) = !(s[i] == 37)
      rw [h]
    have hb : encB keep s[i] = if unres s[i] || (s[i] != 37 && keep.contains s[i]) then [s[i]] else esc s[i] := rfl
    simp only [lawG, ↓Xn, ↓Xo, ↓Xg, ↓Xd, ↓Xe, ↓Xf, Tryz.VΓ, Tryz.Γs, Xp, Xi, Nat.reduceAdd, Nat.reduceSub, Nat.reduceLT, Nat.reduceLeDiff, reduceIte, reduceCtorEq, Nat.reduceEqDiff, implies_true, forall_const, lawV, h0, h1, h5, h9, h10]
    refine ⟨fun _ => ⟨⟨by omega, by omega⟩, ?_⟩, fun h => absurd h (by simp; omega)⟩
    rw [hg]
    (refine callV_pc (p_IsUnreserved s[i]) ?_; simp only [lawG, ↓Xn, ↓Xo, ↓Xg, ↓Xd, ↓Xe, ↓Xf, Tryz.VΓ, Tryz.Γs, Xp, Xi, Nat.reduceAdd, Nat.reduceSub, Nat.reduceLT, Nat.reduceLeDiff, reduceIte, reduceCtorEq, Nat.reduceEqDiff, implies_true, forall_const, lawV, h0, h1, h5, h9, h10, hg])
    refine ⟨fun hq => ⟨fun h37 => ?_, fun h37 => ?_⟩, fun hq => ?_⟩
    · (refine callV_pc (p_IndexByte keep s[i]) ?_; simp only [lawG, ↓Xn, ↓Xo, ↓Xg, ↓Xd, ↓Xe, ↓Xf, Tryz.VΓ, Tryz.Γs, Xp, Xi, Nat.reduceAdd, Nat.reduceSub, Nat.reduceLT, Nat.reduceLeDiff, reduceIte, reduceCtorEq, Nat.reduceEqDiff, implies_true, forall_const, lawV, h0, h1, h5, h9, h10, hg])
      rw [idx_geq]
      refine ⟨fun hin => ?_, fun hin => ?_⟩
      · have e1 : encB keep s[i] = [s[i]] := by rw [hb, hin, ← hnat, h37]; simp
        (rcases ht.sl with ⟨rfl, hc0, hn0⟩ | ⟨j, rfl, hLj, hj⟩
         · have ho : ∀ X, (b ++ [X])[0]? = some (.cells [.nils] 134 true) := fun X => at_old hbox [X]
           have ho2 : ∀ X Y, (b ++ [X] ++ [Y])[0]? = some (.cells [.nils] 134 true) := fun X Y => at_old (ho X) [Y]
           simp only [lawG, ↓Xn, ↓Xo, ↓Xg, ↓Xd, ↓Xe, ↓Xf, Tryz.VΓ, Tryz.Γs, Xp, Xi, Nat.reduceAdd, Nat.reduceSub, Nat.reduceLT, Nat.reduceLeDiff, reduceIte, reduceCtorEq, Nat.reduceEqDiff, implies_true, forall_const, lawV, h0, h1, h5, h9, h10, hbox, at_new, ho, ho2]
           exact ⟨by omega, ⟨by unfold maxLen; omega, by omega⟩, ⟨by omega, by omega⟩, pe_mk (x := .o (b ++ [Res.own [u8S s[i]] 5 1 1 true]).length 1) hlt h0 h1 h5 h9 (by simp only [lk, reduceIte, Option.some.injEq, SV.int.injEq, true_and]; omega) (by simp) (by rw [e1]; exact txt_one ht hbl s[i] rfl)⟩
         · have ho : ∀ X, (b ++ [X])[j]? = some (.own ((pctEncode keep (s.take i)).map u8S) 5 1 (pctEncode keep (s.take i)).length true) := fun X => at_old hj [X]
           have ho2 : ∀ X Y, ((b ++ [X]).set j .gone ++ [Y])[0]? = some (.cells [.o j (pctEncode keep (s.take i)).length] 134 true) := fun X Y => by
             rw [List.getElem?_append_left (by simp), List.getElem?_set_ne (by omega)]; exact at_old hbox [X]
           simp only [lawG, ↓Xn, ↓Xo, ↓Xg, ↓Xd, ↓Xe, ↓Xf, Tryz.VΓ, Tryz.Γs, Xp, Xi, Nat.reduceAdd, Nat.reduceSub, Nat.reduceLT, Nat.reduceLeDiff, reduceIte, reduceCtorEq, Nat.reduceEqDiff, implies_true, forall_const, lawV, h0, h1, h5, h9, h10, hbox, at_new, ho, ho2]
           exact ⟨by omega, ⟨by unfold maxLen; omega, by omega⟩, ⟨by omega, by omega⟩, pe_mk (x := .o (b ++ [Res.own [u8S s[i]] 5 1 1 true]).length ((pctEncode keep (s.take i)).length + 1)) hlt h0 h1 h5 h9 (by simp only [lk, reduceIte, Option.some.injEq, SV.int.injEq, true_and]; omega) (by simp) (by rw [e1]; exact txt_more ht hbl s[i] hLj)⟩)
      · have e2 : encB keep s[i] = esc s[i] := by rw [hb, hq, hin]; simp
        (refine callV_sc (sc_escape ht hbl (by omega) s[i]) ?_
         rintro r b' ⟨rfl, x', ht', hbl', -⟩
         simp only [lawG, ↓Xn, ↓Xo, ↓Xg, ↓Xd, ↓Xe, ↓Xf, Tryz.VΓ, Tryz.Γs, Xp, Xi, Nat.reduceAdd, Nat.reduceSub, Nat.reduceLT, Nat.reduceLeDiff, reduceIte, reduceCtorEq, Nat.reduceEqDiff, implies_true, forall_const, lawV, h0, h1, h5, h9, h10]
         exact ⟨⟨by omega, by omega⟩, pe_mk hlt h0 h1 h5 h9 (by simp only [lk, reduceIte, Option.some.injEq, SV.int.injEq, true_and]; omega) (by omega) (by rw [e2]; exact ht')⟩)
    · have e2 : encB keep s[i] = esc s[i] := by rw [hb, hq, ← hnat, h37]; simp
      (refine callV_sc (sc_escape ht hbl (by omega) s[i]) ?_
       rintro r b' ⟨rfl, x', ht', hbl', -⟩
       simp only [lawG, ↓Xn, ↓Xo, ↓Xg, ↓Xd, ↓Xe, ↓Xf, Tryz.VΓ, Tryz.Γs, Xp, Xi, Nat.reduceAdd, Nat.reduceSub, Nat.reduceLT, Nat.reduceLeDiff, reduceIte, reduceCtorEq, Nat.reduceEqDiff, implies_true, forall_const, lawV, h0, h1, h5, h9, h10]
       exact ⟨⟨by omega, by omega⟩, pe_mk hlt h0 h1 h5 h9 (by simp only [lk, reduceIte, Option.some.injEq, SV.int.injEq, true_and]; omega) (by omega) (by rw [e2]; exact ht')⟩)
    · have e1 : encB keep s[i] = [s[i]] := by rw [hb, hq]; simp
      (rcases ht.sl with ⟨rfl, hc0, hn0⟩ | ⟨j, rfl, hLj, hj⟩
       · have ho : ∀ X, (b ++ [X])[0]? = some (.cells [.nils] 134 true) := fun X => at_old hbox [X]
         have ho2 : ∀ X Y, (b ++ [X] ++ [Y])[0]? = some (.cells [.nils] 134 true) := fun X Y => at_old (ho X) [Y]
         simp only [lawG, ↓Xn, ↓Xo, ↓Xg, ↓Xd, ↓Xe, ↓Xf, Tryz.VΓ, Tryz.Γs, Xp, Xi, Nat.reduceAdd, Nat.reduceSub, Nat.reduceLT, Nat.reduceLeDiff, reduceIte, reduceCtorEq, Nat.reduceEqDiff, implies_true, forall_const, lawV, h0, h1, h5, h9, h10, hbox, at_new, ho, ho2]
         exact ⟨by omega, ⟨by unfold maxLen; omega, by omega⟩, ⟨by omega, by omega⟩, pe_mk (x := .o (b ++ [Res.own [u8S s[i]] 5 1 1 true]).length 1) hlt h0 h1 h5 h9 (by simp only [lk, reduceIte, Option.some.injEq, SV.int.injEq, true_and]; omega) (by simp) (by rw [e1]; exact txt_one ht hbl s[i] rfl)⟩
       · have ho : ∀ X, (b ++ [X])[j]? = some (.own ((pctEncode keep (s.take i)).map u8S) 5 1 (pctEncode keep (s.take i)).length true) := fun X => at_old hj [X]
         have ho2 : ∀ X Y, ((b ++ [X]).set j .gone ++ [Y])[0]? = some (.cells [.o j (pctEncode keep (s.take i)).length] 134 true) := fun X Y => by
           rw [List.getElem?_append_left (by simp), List.getElem?_set_ne (by omega)]; exact at_old hbox [X]
         simp only [lawG, ↓Xn, ↓Xo, ↓Xg, ↓Xd, ↓Xe, ↓Xf, Tryz.VΓ, Tryz.Γs, Xp, Xi, Nat.reduceAdd, Nat.reduceSub, Nat.reduceLT, Nat.reduceLeDiff, reduceIte, reduceCtorEq, Nat.reduceEqDiff, implies_true, forall_const, lawV, h0, h1, h5, h9, h10, hbox, at_new, ho, ho2]
         exact ⟨by omega, ⟨by unfold maxLen; omega, by omega⟩, ⟨by omega, by omega⟩, pe_mk (x := .o (b ++ [Res.own [u8S s[i]] 5 1 1 true]).length ((pctEncode keep (s.take i)).length + 1)) hlt h0 h1 h5 h9 (by simp only [lk, reduceIte, Option.some.injEq, SV.int.injEq, true_and]; omega) (by simp) (by rw [e1]; exact txt_more ht hbl s[i] hLj)⟩)
  · have hie : i = s.length := by omega
    subst hie
    rw [List.take_length] at ht
    rcases ht.sl with ⟨rfl, hc0, hn0⟩ | ⟨j, rfl, hLj, hj⟩
    · have hd : pctEncode keep s = [] := by simpa using hc0
      simp only [lawG, ↓Xn, ↓Xo, ↓Xg, ↓Xd, ↓Xe, ↓Xf, Tryz.VΓ, Tryz.Γs, Xp, Xi, Nat.reduceAdd, Nat.reduceSub, Nat.reduceLT, Nat.reduceLeDiff, reduceIte, reduceCtorEq, Nat.reduceEqDiff, implies_true, forall_const, lawV, h0, h1, h5, h9, h10, hbox]
      exact ⟨fun h => absurd h (by simp), fun _ => by rw [hd]⟩
    · simp only [lawG, ↓Xn, ↓Xo, ↓Xg, ↓Xd, ↓Xe, ↓Xf, Tryz.VΓ, Tryz.Γs, Xp, Xi, Nat.reduceAdd, Nat.reduceSub, Nat.reduceLT, Nat.reduceLeDiff, reduceIte, reduceCtorEq, Nat.reduceEqDiff, implies_true, forall_const, lawV, h0, h1, h5, h9, h10, hbox, hj]
      exact ⟨fun h => absurd h (by simp), fun _ => ⟨isU8_map _, by rw [unU8_map]⟩⟩
end Go.Proofs.YtcndmooeglfilaaGreatDoor
