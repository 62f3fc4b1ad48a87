/- Plain functions and laws of package did. -/
import Derived.Test.YtnncgbamppaacaaDoorAcctP
import Derived.Test.YtnncgbamppaacaaDoorPlain
set_option linter.all false
namespace Wf
open Go Go.RowKit
structure Did where
  method : Bytes
  id : Bytes
  deriving DecidableEq
def Did.none : Did := ⟨[], []⟩
structure DidUrl where
  did : Did
  path : Bytes
  query : Bytes
  fragment : Bytes
  hasQuery : Bool
  hasFrag : Bool
  deriving DecidableEq
def DidUrl.none : DidUrl := ⟨Did.none, [], [], [], false, false⟩
def plainD (c : UInt8) : Bool := isAlpha c || isDigit c || ([46, 45, 95] : Bytes).contains c
def methodC (c : UInt8) : Bool := isDigit c || decide (97 ≤ c.toNat ∧ c.toNat ≤ 122)
def methodOk (s : Bytes) : Bool := !s.isEmpty && s.all methodC
def didB (c : UInt8) : Bytes := if plainD c then [c] else esc c
/-- A text, escaped for a DID. -/
def didEsc (s : Bytes) : Bytes := s.flatMap didB
def didU : PU → Bytes
  | .lit c => [c]
  | .hex a b => didB (unhex a b)
  | .bad => []
def litOk : PU → Bool
  | .lit c => plainD c || c == 58
  | _ => true
def didCanon (s : Bytes) : Bytes × Int :=
  if PU.bad ∈ units s then ([], 2) else if (units s).all litOk = false then ([], 1) else ((units s).flatMap didU, 0)
def didEnd (m : Bytes) (c : Bytes × Int) : Did × Int :=
  if c.2 ≠ 0 then (Did.none, c.2) else if c.1 = [] ∨ c.1.getLast? = some 58 then (Did.none, 3) else (⟨m, c.1⟩, 0)
def didRest (s : Bytes) : Did × Int :=
  if (cutC 58 s).2.2 = false then (Did.none, 6)
  else if methodOk (cutC 58 s).1 = false then (Did.none, 100)
  else didEnd (cutC 58 s).1 (didCanon (cutC 58 s).2.1)
def didS : Bytes := [100, 105, 100, 58]
def didParse (s : Bytes) : Did × Int :=
  if 4096 < s.length then (Did.none, 5)
  else if didS.isPrefixOf s = false then (Did.none, 60)
  else didRest (s.drop 4)
def didText (d : Did) : Bytes := didS ++ d.method ++ [58] ++ d.id
def didUrlText (u : DidUrl) : Bytes := didText u.did ++ u.path ++ (if u.hasQuery then [63] ++ u.query else []) ++ (if u.hasFrag then [35] ++ u.fragment else [])
def didUrlEnd (d : Did × Int) (p q f : Bytes × Int) (hq hf : Bool) : DidUrl × Int :=
  if d.2 ≠ 0 then (DidUrl.none, d.2)
  else if p.2 ≠ 0 then (DidUrl.none, p.2)
  else if q.2 ≠ 0 then (DidUrl.none, q.2)
  else if f.2 ≠ 0 then (DidUrl.none, f.2)
  else (⟨d.1, p.1, q.1, f.1, hq, hf⟩, 0)
/-- Out of what stands before the query, the query and the fragment. -/
def didUrlOf (s q f : Bytes) (hq hf : Bool) : DidUrl × Int :=
  didUrlEnd (didParse (s.take (pre (· == 47) s))) (pctNorm inPath (s.drop (pre (· == 47) s))) (pctNorm inQuery q) (pctNorm inQuery f) hq hf
def didUrl (s : Bytes) : DidUrl × Int :=
  if 4096 < s.length then (DidUrl.none, 5)
  else didUrlOf (cutC 63 (cutC 35 s).1).1 (cutC 63 (cutC 35 s).1).2.1 (cutC 35 s).2.1 (cutC 63 (cutC 35 s).1).2.2 (cutC 35 s).2.2
def didResolve (d : Did) (r : Bytes) : DidUrl × Int :=
  if didS.isPrefixOf r = true then didUrl r
  else if r = [] ∨ r.head? = some 47 ∨ r.head? = some 63 ∨ r.head? = some 35 then didUrl (didText d ++ r)
  else (DidUrl.none, 6)
/-! units -/
theorem units_str : ∀ (l : List PU), (∀ x ∈ l, (∀ c, x = .lit c → c ≠ 37) ∧ (∀ a b, x = .hex a b → isHex a = true ∧ isHex b = true) ∧ x ≠ .bad) → units (l.flatMap PU.str) = l
  | [], _ => rfl
  | .lit c :: r, h => by
    have h1 := (h _ List.mem_cons_self).1 c rfl
    rw [List.flatMap_cons, PU.str, List.singleton_append, units_lit h1, units_str r (fun x hx => h x (List.mem_cons_of_mem _ hx))]
  | .hex a b :: r, h => by
    have h1 := (h _ List.mem_cons_self).2.1 a b rfl
    rw [List.flatMap_cons, PU.str]
    simp only [List.cons_append, List.nil_append]
    rw [units_hex h1.1 h1.2, units_str r (fun x hx => h x (List.mem_cons_of_mem _ hx))]
  | .bad :: r, h => ((h _ List.mem_cons_self).2.2 rfl).elim
theorem unitsGo_back : ∀ (f : Nat) (s : Bytes), s.length ≤ f → PU.bad ∉ unitsGo f s → (unitsGo f s).flatMap PU.str = s
  | 0, s, h, _ => by
    obtain rfl := List.length_eq_zero_iff.1 (Nat.le_zero.1 h)
    rfl
  | f + 1, [], _, _ => rfl
  | f + 1, c :: r, h, hb => by
    rw [unitsGo] at hb ⊢
    simp only [List.length_cons] at h
    split
    · rename_i hc
      rw [if_pos hc] at hb
      cases hp : hexPair r with
      | none => rw [hp] at hb; simp at hb
      | some x =>
        obtain ⟨a, b, r'⟩ := x
        rw [hp] at hb
        obtain ⟨rfl, -, -⟩ := hexPair_some hp
        simp only [List.mem_cons, reduceCtorEq, false_or] at hb
        simp only [List.length_cons] at h
        simp only [List.flatMap_cons, PU.str, unitsGo_back f r' (by omega) hb]
        rw [hc]; rfl
    · rename_i hc
      rw [if_neg hc] at hb
      simp only [List.mem_cons, reduceCtorEq, false_or] at hb
      simp only [List.flatMap_cons, PU.str, unitsGo_back f r (by omega) hb]
      rfl
theorem units_back {s : Bytes} (h : PU.bad ∉ units s) : (units s).flatMap PU.str = s := unitsGo_back _ s (Nat.le_refl _) h
theorem unitsGo_hex : ∀ (f : Nat) (s : Bytes) (a b : UInt8), PU.hex a b ∈ unitsGo f s → isHex a = true ∧ isHex b = true
  | 0, _, _, _, h => by simp [unitsGo] at h
  | _ + 1, [], _, _, h => by simp [unitsGo] at h
  | f + 1, d :: r, a, b, h => by
    rw [unitsGo] at h
    split at h
    · cases hp : hexPair r with
      | none => rw [hp] at h; simp at h
      | some x =>
        obtain ⟨a', b', r'⟩ := x
        rw [hp] at h
        obtain ⟨-, h2, h3⟩ := hexPair_some hp
        simp only [List.mem_cons, PU.hex.injEq] at h
        rcases h with ⟨rfl, rfl⟩ | h
        · exact ⟨h2, h3⟩
        · exact unitsGo_hex f _ a b h
    · simp only [List.mem_cons, reduceCtorEq, false_or] at h
      exact unitsGo_hex f _ a b h
theorem units_hexes {s : Bytes} {a b : UInt8} (h : PU.hex a b ∈ units s) : isHex a = true ∧ isHex b = true := unitsGo_hex _ s a b h
theorem units_app_colon : ∀ (n : Nat) (a b : Bytes), a.length ≤ n → PU.bad ∉ units a → units (a ++ 58 :: b) = units a ++ .lit 58 :: units b
  | 0, a, b, h, _ => by
    obtain rfl := List.length_eq_zero_iff.1 (Nat.le_zero.1 h)
    rw [List.nil_append, units_lit (by decide)]; rfl
  | n + 1, [], b, _, _ => by rw [List.nil_append, units_lit (by decide)]; rfl
  | n + 1, c :: a, b, h, hb => by
    simp only [List.length_cons] at h
    by_cases hc : c = 37
    · subst hc
      cases hp : hexPair a with
      | none => rw [units_bad hp] at hb; simp at hb
      | some x =>
        obtain ⟨u, v, r⟩ := x
        obtain ⟨rfl, h1, h2⟩ := hexPair_some hp
        rw [units_hex h1 h2] at hb ⊢
        simp only [List.length_cons] at h
        simp only [List.cons_append]
        rw [units_hex h1 h2, units_app_colon n r b (by omega) (by simpa using hb)]
    · rw [units_lit hc] at hb ⊢
      rw [List.cons_append, units_lit hc, units_app_colon n a b (by omega) (by simpa using hb)]
      rfl
/-! canonical identifiers -/
def canD : PU → Prop
  | .lit c => (plainD c || c == 58) = true
  | .hex a b => plainD (unhex a b) = false ∧ a = hexU ((unhex a b).toNat / 16) ∧ b = hexU ((unhex a b).toNat % 16) ∧ isHex a = true ∧ isHex b = true
  | .bad => False
def CanI (s : Bytes) : Prop := ∃ l : List PU, s = l.flatMap PU.str ∧ ∀ x ∈ l, canD x
theorem plainD_no {c : UInt8} (h : (plainD c || c == 58) = true) : c ≠ 37 ∧ c ≠ 47 ∧ c ≠ 63 ∧ c ≠ 35 := by
  have := all256 (p := fun c => !(plainD c || c == 58) || (c != 37 && c != 47 && c != 63 && c != 35)) (by decide +kernel) c
  rw [h] at this
  simpa [and_assoc] using this
theorem hex_no {c : UInt8} (h : isHex c = true) : c ≠ 37 ∧ c ≠ 47 ∧ c ≠ 63 ∧ c ≠ 35 ∧ c ≠ 58 := by
  have := all256 (p := fun c => !(isHex c) || (c != 37 && c != 47 && c != 63 && c != 35 && c != 58)) (by decide +kernel) c
  rw [h] at this
  simpa [and_assoc] using this
theorem canI_units {l : List PU} (h : ∀ x ∈ l, canD x) : units (l.flatMap PU.str) = l :=
  units_str l fun x hx => by
    have := h x hx
    cases x with
    | lit c => exact ⟨fun d e => by cases e; exact (plainD_no this).1, by simp, by simp⟩
    | hex a b => exact ⟨by simp, fun u v e => by cases e; exact this.2.2.2, by simp⟩
    | bad => exact this.elim
theorem canI_canon {s : Bytes} (h : CanI s) : didCanon s = (s, 0) := by
  obtain ⟨l, rfl, hl⟩ := h
  unfold didCanon
  rw [canI_units hl, if_neg (fun k => absurd (hl _ k) (by simp [canD])), if_neg ?_]
  · congr 1
    have : ∀ m : List PU, (∀ x ∈ m, canD x) → m.flatMap didU = m.flatMap PU.str := by
      intro m
      induction m with
      | nil => intro _; rfl
      | cons x m ih =>
        intro hm
        rw [List.flatMap_cons, List.flatMap_cons, ih (fun y hy => hm y (List.mem_cons_of_mem _ hy))]
        congr 1
        have := hm x List.mem_cons_self
        cases x with
        | lit c => rfl
        | hex a b =>
          simp only [didU, didB, PU.str]
          rw [if_neg (by simp [this.1])]
          unfold esc
          rw [← this.2.1, ← this.2.2.1]
        | bad => exact this.elim
    exact this l hl
  · simp only [Bool.not_eq_false]
    refine List.all_eq_true.2 fun x hx => ?_
    have := hl x hx
    cases x with
    | lit c => exact this
    | hex a b => rfl
    | bad => rfl
theorem canon_can {s x : Bytes} (h : didCanon s = (x, 0)) : CanI x ∧ x.length ≤ s.length ∧ (∀ c ∈ s, c ≠ 47 ∧ c ≠ 63 ∧ c ≠ 35) := by
  unfold didCanon at h
  split at h
  · simp at h
  rename_i hb
  split at h
  · simp at h
  rename_i ha
  simp only [Prod.mk.injEq, and_true] at h
  subst h
  have ha : (units s).all litOk = true := by simpa using ha
  have hs := units_back hb
  have hlit : ∀ c, PU.lit c ∈ units s → (plainD c || c == 58) = true := fun c hc => List.all_eq_true.1 ha _ hc
  have hhex := fun a b => units_hexes (s := s) (a := a) (b := b)
  generalize units s = l at *
  subst hs
  have key : ∀ m : List PU, (∀ c, PU.lit c ∈ m → (plainD c || c == 58) = true) → (∀ a b, PU.hex a b ∈ m → isHex a = true ∧ isHex b = true) → PU.bad ∉ m →
      CanI (m.flatMap didU) ∧ (m.flatMap didU).length ≤ (m.flatMap PU.str).length ∧ (∀ c ∈ m.flatMap PU.str, c ≠ 47 ∧ c ≠ 63 ∧ c ≠ 35) := by
    intro m
    induction m with
    | nil => intro _ _ _; exact ⟨⟨[], rfl, by simp⟩, by simp, by simp⟩
    | cons x m ih =>
      intro h1 h2 h3
      obtain ⟨⟨l', e', k'⟩, i2, i3⟩ := ih (fun c hc => h1 c (List.mem_cons_of_mem _ hc)) (fun a b hc => h2 a b (List.mem_cons_of_mem _ hc)) (fun hc => h3 (List.mem_cons_of_mem _ hc))
      simp only [List.flatMap_cons, List.length_append]
      cases x with
      | lit c =>
        have hc := h1 c List.mem_cons_self
        refine ⟨⟨.lit c :: l', by rw [e']; rfl, fun y hy => ?_⟩, by rw [show (didU (.lit c)).length = 1 from rfl, show (PU.str (.lit c)).length = 1 from rfl]; omega, fun d hd => ?_⟩
        · rcases List.mem_cons.1 hy with rfl | hy
          · exact hc
          · exact k' y hy
        · rcases List.mem_append.1 hd with hd | hd
          · obtain rfl := List.mem_singleton.1 hd; exact (plainD_no hc).2
          · exact i3 d hd
      | hex a b =>
        obtain ⟨ha', hb'⟩ := h2 a b List.mem_cons_self
        have hbytes : ∀ d ∈ PU.str (.hex a b) ++ m.flatMap PU.str, d ≠ 47 ∧ d ≠ 63 ∧ d ≠ 35 := by
          intro d hd
          rcases List.mem_append.1 hd with hd | hd
          · simp only [PU.str, List.mem_cons, List.not_mem_nil, or_false] at hd
            rcases hd with rfl | rfl | rfl
            · decide
            · have := hex_no ha'; exact ⟨this.2.1, this.2.2.1, this.2.2.2.1⟩
            · have := hex_no hb'; exact ⟨this.2.1, this.2.2.1, this.2.2.2.1⟩
          · exact i3 d hd
        have q1 : (didU (.hex a b)).length ≤ 3 := by simp only [didU, didB]; split <;> simp [esc]
        have q2 : (PU.str (.hex a b)).length = 3 := rfl
        have q3 : (if plainD (unhex a b) = true then 1 else 3) = (didU (.hex a b)).length := by simp only [didU, didB]; split <;> simp [esc]
        by_cases hp : plainD (unhex a b) = true
        · refine ⟨⟨.lit (unhex a b) :: l', by rw [e', List.flatMap_cons]; simp only [didU, didB, hp, PU.str, if_true], fun y hy => ?_⟩, by omega, hbytes⟩
          rcases List.mem_cons.1 hy with rfl | hy
          · show (plainD _ || _) = true; rw [hp]; rfl
          · exact k' y hy
        · have hp : plainD (unhex a b) = false := by simpa using hp
          have hn := (unhex a b).toNat_lt
          have hv := unhex_esc (unhex a b)
          refine ⟨⟨.hex (hexU ((unhex a b).toNat / 16)) (hexU ((unhex a b).toNat % 16)) :: l', by rw [e', List.flatMap_cons]; simp only [didU, didB, hp, PU.str, esc, Bool.false_eq_true, if_false], fun y hy => ?_⟩, by omega, hbytes⟩
          rcases List.mem_cons.1 hy with rfl | hy
          · exact ⟨by rw [hv]; exact hp, by rw [hv], by rw [hv], hexU_hex _ (by omega), hexU_hex _ (by omega)⟩
          · exact k' y hy
      | bad => exact (h3 List.mem_cons_self).elim
  exact key l hlit hhex hb
theorem canI_no {s : Bytes} (h : CanI s) : ∀ c ∈ s, c ≠ 47 ∧ c ≠ 63 ∧ c ≠ 35 := (canon_can (canI_canon h)).2.2
structure CanDid (d : Did) : Prop where
  method : methodOk d.method = true
  id : CanI d.id
  ne : d.id ≠ []
  last : d.id.getLast? ≠ some 58
theorem method_no {s : Bytes} (h : methodOk s = true) : ∀ c ∈ s, c ≠ 47 ∧ c ≠ 63 ∧ c ≠ 35 ∧ c ≠ 58 := by
  intro c hc
  unfold methodOk at h
  simp only [Bool.and_eq_true] at h
  have h1 := List.all_eq_true.1 h.2 c hc
  have := all256 (p := fun c => !(methodC c) || (c != 47 && c != 63 && c != 35 && c != 58)) (by decide +kernel) c
  rw [h1] at this
  simpa [and_assoc] using this
theorem did_can {s : Bytes} {d : Did} (h : didParse s = (d, 0)) : CanDid d ∧ (didText d).length ≤ s.length ∧ s.length ≤ 4096 ∧ ∀ c ∈ s, c ≠ 47 ∧ c ≠ 63 ∧ c ≠ 35 := by
  unfold didParse at h
  split at h
  · simp at h
  split at h
  · simp at h
  rename_i h1 h2
  have h2 : didS.isPrefixOf s = true := by simpa using h2
  obtain ⟨r, rfl⟩ := List.isPrefixOf_iff_prefix.1 h2
  have e4 : (didS ++ r).drop 4 = r := rfl
  rw [e4] at h
  unfold didRest at h
  split at h
  · simp at h
  split at h
  · simp at h
  rename_i h3 h4
  have h3 : (cutC 58 r).2.2 = true := by simpa using h3
  have h4 : methodOk (cutC 58 r).1 = true := by simpa using h4
  unfold didEnd at h
  split at h
  · rename_i h5; exact absurd (Prod.mk.inj h).2 h5
  split at h
  · simp at h
  rename_i h5 h6
  simp only [not_or] at h6
  simp only [Prod.mk.injEq, and_true] at h
  subst h
  have e : didCanon (cutC 58 r).2.1 = ((didCanon (cutC 58 r).2.1).1, 0) := by
    have : (didCanon (cutC 58 r).2.1).2 = 0 := by simpa using h5
    rw [← this]
  obtain ⟨k1, k2, k3⟩ := canon_can e
  have hlen := cut_parts h3
  refine ⟨⟨h4, k1, h6.1, h6.2⟩, ?_, by omega, ?_⟩
  · simp only [didText, List.length_append, List.length_cons, List.length_nil]; omega
  · have hu := uncut 58 r
    rw [if_pos h3] at hu
    intro c hc
    rcases List.mem_append.1 hc with hc | hc
    · have : ∀ c ∈ didS, c ≠ 47 ∧ c ≠ 63 ∧ c ≠ 35 := by decide
      exact this c hc
    · rw [hu] at hc
      rcases List.mem_append.1 hc with hc | hc
      · have := method_no h4 c hc; exact ⟨this.1, this.2.1, this.2.2.1⟩
      · rcases List.mem_append.1 hc with hc | hc
        · obtain rfl := List.mem_singleton.1 hc; decide
        · exact k3 c hc
theorem didParse_err (s : Bytes) (h : (didParse s).2 ≠ 0) : (didParse s).1 = Did.none := by
  unfold didParse at h ⊢
  split
  · rfl
  rename_i h1
  rw [if_neg h1] at h
  split
  · rfl
  rename_i h2
  rw [if_neg h2] at h
  unfold didRest at h ⊢
  split
  · rfl
  rename_i h3
  rw [if_neg h3] at h
  split
  · rfl
  rename_i h4
  rw [if_neg h4] at h
  unfold didEnd at h ⊢
  split
  · rfl
  rename_i h5
  rw [if_neg h5] at h
  split
  · rfl
  rename_i h6
  rw [if_neg h6] at h
  exact absurd rfl h
theorem did_read {d : Did} (h : CanDid d) (hl : (didText d).length ≤ 4096) : didParse (didText d) = (d, 0) := by
  unfold didParse
  have e1 : didS.isPrefixOf (didText d) = true := rfl
  have e2 : (didText d).drop 4 = d.method ++ 58 :: d.id := by show d.method ++ [58] ++ d.id = _; simp
  rw [if_neg (by omega), if_neg (by rw [e1]; simp), e2]
  unfold didRest
  rw [cutC_some (pre_none (fun k => (method_no h.method _ k).2.2.2 rfl)), if_neg (by simp), if_neg (by simp [h.method])]
  simp only
  rw [canI_canon h.id]
  unfold didEnd
  rw [if_neg (by simp), if_neg (by simp only [not_or]; exact ⟨h.ne, h.last⟩)]
theorem did_url {s : Bytes} {d : Did} (h : didParse s = (d, 0)) : didUrl s = (⟨d, [], [], [], false, false⟩, 0) := by
  obtain ⟨-, -, h1, h2⟩ := did_can h
  unfold didUrl
  rw [if_neg (by omega), cutC_none (pre_none (fun k => (h2 _ k).2.2 rfl)), cutC_none (pre_none (fun k => (h2 _ k).2.1 rfl))]
  simp only
  unfold didUrlOf
  rw [pre_none (fun k => (h2 _ k).1 rfl), List.take_length, List.drop_length, h]
  rfl
theorem didUrl_err (s : Bytes) (h : (didUrl s).2 ≠ 0) : (didUrl s).1 = DidUrl.none := by
  unfold didUrl at h ⊢
  split
  · rfl
  rename_i h1
  rw [if_neg h1] at h
  unfold didUrlOf didUrlEnd at h ⊢
  split
  · rfl
  rename_i h2
  rw [if_neg h2] at h
  split
  · rfl
  rename_i h3
  rw [if_neg h3] at h
  split
  · rfl
  rename_i h4
  rw [if_neg h4] at h
  split
  · rfl
  rename_i h5
  rw [if_neg h5] at h
  exact absurd rfl h
structure CanDidUrl (u : DidUrl) : Prop where
  did : CanDid u.did
  path : Can inPath u.path
  slash : u.path = [] ∨ ∃ r, u.path = 47 :: r
  query : Can inQuery u.query
  frag : Can inQuery u.fragment
  noq : u.hasQuery = false → u.query = []
  nof : u.hasFrag = false → u.fragment = []
theorem norm_slash {s : Bytes} (h : s = [] ∨ ∃ r, s = 47 :: r) (e : (pctNorm inPath s).2 = 0) : (pctNorm inPath s).1 = [] ∨ ∃ r, (pctNorm inPath s).1 = 47 :: r := by
  rcases h with rfl | ⟨q, rfl⟩
  · left; rfl
  · right
    unfold pctNorm at e ⊢
    split
    · rename_i hx; rw [if_pos hx] at e; simp at e
    rename_i hx
    rw [if_neg hx, units_lit (by decide), normU, if_pos (by decide)] at e
    rw [units_lit (by decide), normU, if_pos (by decide)]
    unfold comb at e ⊢
    split
    · exact ⟨_, rfl⟩
    · rename_i hy; rw [if_neg hy] at e; exact absurd e hy
theorem didUrl_can {s : Bytes} {u : DidUrl} (h : didUrl s = (u, 0)) : CanDidUrl u ∧ (didUrlText u).length ≤ s.length ∧ s.length ≤ 4096 := by
  unfold didUrl at h
  split at h
  · simp at h
  rename_i hl
  have q1 := uncut_no 63 (cutC 35 s).1
  have q2 := uncut_no 35 s
  have l1 := congrArg List.length (uncut 35 s)
  have l2 := congrArg List.length (uncut 63 (cutC 35 s).1)
  generalize (cutC 63 (cutC 35 s).1).1 = b at h l2
  generalize (cutC 63 (cutC 35 s).1).2.1 = q at h l2 q1
  generalize (cutC 63 (cutC 35 s).1).2.2 = hq at h l2 q1
  generalize (cutC 35 s).1 = a at l1 l2
  generalize (cutC 35 s).2.1 = f at h l1 q2
  generalize (cutC 35 s).2.2 = hf at h l1 q2
  unfold didUrlOf didUrlEnd at h
  split at h
  · rename_i h5; exact absurd (Prod.mk.inj h).2 h5
  split at h
  · rename_i h5; exact absurd (Prod.mk.inj h).2 h5
  split at h
  · rename_i h5; exact absurd (Prod.mk.inj h).2 h5
  split at h
  · rename_i h5; exact absurd (Prod.mk.inj h).2 h5
  rename_i h1 h2 h3 h4
  simp only [Prod.mk.injEq, and_true] at h
  subst h
  have e : didParse (b.take (pre (· == 47) b)) = ((didParse (b.take (pre (· == 47) b))).1, 0) := by
    have : (didParse (b.take (pre (· == 47) b))).2 = 0 := by simpa using h1
    rw [← this]
  obtain ⟨k1, k2, -, -⟩ := did_can e
  have n1 := pctNorm_len inPath (b.drop (pre (· == 47) b))
  have n2 := pctNorm_len inQuery q
  have n3 := pctNorm_len inQuery f
  refine ⟨⟨k1, norm_can (by simpa using h2), norm_slash (drop_pre _) (by simpa using h2), norm_can (by simpa using h3), norm_can (by simpa using h4), fun k => by simp only at k ⊢; rw [q1 k]; rfl, fun k => by simp only at k ⊢; rw [q2 k]; rfl⟩, ?_, by omega⟩
  have hb := congrArg List.length (List.take_append_drop (pre (· == 47) b) b)
  rw [List.length_append] at hb
  simp only [didUrlText, List.length_append] at l1 l2 ⊢
  cases hq <;> cases hf <;> simp at l1 l2 ⊢ <;> omega
theorem didUrl_read {u : DidUrl} (h : CanDidUrl u) (hl : (didUrlText u).length ≤ 4096) : didUrl (didUrlText u) = (u, 0) := by
  obtain ⟨d, pa, qu, fr, b3, b4⟩ := u
  obtain ⟨h1, h2, h3, h4, h5, h6, h7⟩ := h
  simp only at h1 h2 h3 h4 h5 h6 h7
  have hd : (didText d).length ≤ 4096 := by simp [didUrlText] at hl; omega
  have lq : b3 = true → qu.length ≤ 4096 := fun k => by rw [didUrlText, k] at hl; simp at hl; omega
  have lf : b4 = true → fr.length ≤ 4096 := fun k => by rw [didUrlText, k] at hl; simp at hl; omega
  have lp : pa.length ≤ 4096 := by simp [didUrlText] at hl; omega
  have rd := did_read h1 hd
  have hdt := (did_can rd).2.2.2
  have hpb := path_no' h2
  have hqb := query_no' h4
  have c1 : cutC 35 (didUrlText ⟨d, pa, qu, fr, b3, b4⟩) = (didText d ++ pa ++ (if b3 then [63] ++ qu else []), fr, b4) := by
    have hn : (35 : UInt8) ∉ didText d ++ pa ++ (if b3 then [63] ++ qu else []) := by
      simp only [List.mem_append, not_or]
      refine ⟨⟨fun k => (hdt _ k).2.2 rfl, fun k => (hpb _ k).2 rfl⟩, ?_⟩
      split
      · simp only [List.mem_append, not_or]; exact ⟨by decide, hqb⟩
      · simp
    cases b4
    · have : didUrlText ⟨d, pa, qu, fr, b3, false⟩ = didText d ++ pa ++ (if b3 then [63] ++ qu else []) := by simp [didUrlText]
      rw [this, cutC_none (pre_none hn), h7 rfl]
    · have : didUrlText ⟨d, pa, qu, fr, b3, true⟩ = (didText d ++ pa ++ (if b3 then [63] ++ qu else [])) ++ 35 :: fr := by simp [didUrlText]
      rw [this, cutC_some (pre_none hn)]
  have c2 : cutC 63 (didText d ++ pa ++ (if b3 then [63] ++ qu else [])) = (didText d ++ pa, qu, b3) := by
    have hn : (63 : UInt8) ∉ didText d ++ pa := by
      simp only [List.mem_append, not_or]
      exact ⟨fun k => (hdt _ k).2.1 rfl, fun k => (hpb _ k).1 rfl⟩
    cases b3
    · rw [if_neg (by simp), List.append_nil, cutC_none (pre_none hn), h6 rfl]
    · rw [if_pos rfl, List.singleton_append, cutC_some (pre_none hn)]
  unfold didUrl
  rw [if_neg (by omega), c1]
  simp only
  rw [c2]
  simp only
  have hp47 : pre (· == 47) (didText d ++ pa) = (didText d).length := by
    have hn := pre_none (c := 47) (l := didText d) (fun k => (hdt _ k).1 rfl)
    rcases h3 with rfl | ⟨r, rfl⟩
    · rw [List.append_nil]; exact hn
    · exact pre_app hn 47 r (by decide)
  unfold didUrlOf
  rw [hp47, List.take_left, List.drop_left, rd, can_norm h2 (by omega)]
  have n2 : pctNorm inQuery qu = (qu, 0) := by
    cases b3
    · rw [h6 rfl]; rfl
    · exact can_norm h4 (by have := lq rfl; omega)
  have n3 : pctNorm inQuery fr = (fr, 0) := by
    cases b4
    · rw [h7 rfl]; rfl
    · exact can_norm h5 (by have := lf rfl; omega)
  rw [n2, n3]
  rfl
theorem didUrl_back {s : Bytes} {u : DidUrl} (h : didUrl s = (u, 0)) : didUrl (didUrlText u) = (u, 0) ∧ didResolve u.did [] = (⟨u.did, [], [], [], false, false⟩, 0) := by
  obtain ⟨h1, h2, h3⟩ := didUrl_can h
  refine ⟨didUrl_read h1 (by omega), ?_⟩
  have hl : (didText u.did).length ≤ (didUrlText u).length := by simp [didUrlText]
  unfold didResolve
  rw [if_neg (by decide), if_pos (.inl rfl), List.append_nil]
  exact did_url (did_read h1.did (by omega))
end Wf
