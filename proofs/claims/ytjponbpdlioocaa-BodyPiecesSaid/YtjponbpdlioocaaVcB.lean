/- A calculus of conditions: a strings.Builder is one thing of the state. -/
import Derived.Test.YtjponbpdlioocaaV
import Derived.Test.YtjponbpdlioocaaVc7
import Derived.Test.YtjponbpdlioocaaSmall
set_option linter.all false
namespace Vc
open Go Go.RowKit Wf
theorem FrW.mono {own own' : Nat → Prop} {w w' : World} (h : FrW own w w') (k : ∀ b, own b → own' b) : FrW own' w w' :=
  ⟨h.os, h.tape, h.output, h.size, fun b hb hn => h.block b hb (fun e => hn (k b e))⟩
/-- A builder of type TB that holds the bytes l: its block, and the row behind it. -/
def BldR (TB TU : TypeId) (l : List UInt8) : Rsc where
  holds t fp w := t.off = 0 ∧ ∃ (p : Value) (t2 : Bt) (f2 : Nat → Prop), (p = .pointer none ∨ p = .pointer (some ⟨t.blk, 0, none⟩)) ∧
    (∃ fz, Head w t.blk TB [p, oV t2 l.length] [] fz) ∧ Holds bt0 t2 f2 w (.own (l.map u8S) TU 1 l.length true) ∧ ¬ f2 t.blk ∧ ∀ k, fp k ↔ k = t.blk ∨ f2 k
  stays b fp w w' := by
    rintro ⟨h0, p, t2, f2, hp, ⟨fz, h1, h2⟩, h3, h4, h5⟩ hk
    exact ⟨h0, p, t2, f2, hp, ⟨fz, (hk _ ((h5 _).2 (.inl rfl))).trans h1, h2⟩, h3.stays (fun k hf => hk k ((h5 k).2 (.inr hf))), h4, h5⟩
theorem u8_conc (l : List UInt8) (β β' : Nat → Bt) : (l.map u8S).map (conc β) = (l.map u8S).map (conc β') := by
  simp [u8S, conc]
theorem holds_u8 {β β' : Nat → Bt} {t : Bt} {f : Nat → Prop} {w : World} {l : List UInt8} {TU : TypeId} {n : Nat} {m : Bool} (h : Holds β t f w (.own (l.map u8S) TU 1 n m)) : Holds β' t f w (.own (l.map u8S) TU 1 n m) := by
  simp only [Holds] at h ⊢
  rw [u8_conc l β' β]
  exact h
theorem res_agr {b1 b2 : Nat → Bt} {t t' : Bt} {fq fq' : Nat → Prop} {w w' : World} {r : Res} (h1 : Holds b1 t fq w r) (h2 : Holds b2 t fq w r) (h : Holds b1 t' fq' w' r) : Holds b2 t' fq' w' r := by
  cases r with
  | cells c T m =>
    obtain ⟨-, ⟨r1, f1, d1, rfl⟩, -⟩ := h1
    obtain ⟨-, ⟨r2, f2, d2, rfl⟩, -⟩ := h2
    have e := lies_agr (by simp) d1.lies d2.lies
    simp only [Holds] at h ⊢
    rw [← e]; exact h
  | own c e s n m =>
    rcases h1 with ⟨-, -, rfl, -⟩ | ⟨-, -, -, -, l1, -⟩
    · simpa [Holds] using h
    · rcases h2 with ⟨-, -, rfl, -⟩ | ⟨-, -, -, -, l2, -⟩
      · simpa [Holds] using h
      · have e := lies_agr (by simp) l1 l2
        simp only [Holds] at h ⊢
        rw [← e]; exact h
  | ext R => exact h
  | gone => exact h
variable {V : Cx} {f : FuncId} {args : List SV} {bs : List Res} {R : SV → List Res → Prop}
/-- A thing may be seen as another one that says less of the same blocks. -/
theorem sc_view {i : Nat} {r0 r1 : Res} (hi : bs[i]? = some r0) (hm : r1.mine = r0.mine) (hv : ∀ (β : Nat → Bt) (fp : Nat → Nat → Prop) (w : World), Holds β (β i) (fp i) w r0 → Holds β (β i) (fp i) w r1) (h : SC V f args (bs.set i r1) R) : SC V f args bs R := by
  refine ⟨h.1, fun β fp w hbx hG hE => ?_⟩
  have hil : i < bs.length := (List.getElem?_eq_some_iff.1 hi).1
  have old : ∀ {j r'}, (bs.set i r1)[j]? = some r' → ∃ r, bs[j]? = some r ∧ r.mine = r'.mine ∧ (j ≠ i ∧ r' = r ∨ j = i ∧ r' = r1) := fun {j r'} hj => by
    by_cases hji : j = i
    · subst hji
      rw [List.getElem?_set_self hil] at hj
      obtain rfl := Option.some.inj hj
      exact ⟨r0, hi, hm.symm, .inr ⟨rfl, rfl⟩⟩
    · rw [List.getElem?_set_ne (fun e => hji e.symm)] at hj
      exact ⟨r', hj, rfl, .inl ⟨hji, rfl⟩⟩
  refine (h.2 β fp w (fun β' hβ => ?_) (fun j r hj hjm k hk => ?_) hE).mono ?_
  · rw [List.length_set] at hβ
    have hb := hbx β' hβ
    refine ⟨fun j r' hj => ?_, fun j r' hj k hk => ?_, fun j l a b hj hl hne hmm => ?_⟩
    · obtain ⟨r, hr, -, ⟨-, rfl⟩ | ⟨rfl, rfl⟩⟩ := old hj
      · exact hb.holds j _ hr
      · exact hv β' fp w (hb.holds _ _ hi)
    · obtain ⟨r, hr, -⟩ := old hj
      exact hb.lt j r hr k hk
    · obtain ⟨r, hr, e, -⟩ := old hj
      obtain ⟨r', hr', e', -⟩ := old hl
      exact hb.sep j l r r' hr hr' hne (by rw [e, e']; exact hmm)
  · obtain ⟨r, hr, e, -⟩ := old hj
    exact hG j r hr (e.trans hjm) k hk
  · rintro e w' ⟨r, bs', β₂, fp₂, hR, hag, hlen, hall, hfr, hmine, hfoot⟩
    rw [List.length_set] at hag hlen
    refine ⟨r, bs', β₂, fp₂, hR, hag, hlen, hall, hfr.mono ?_, fun j r' hj hjm k hk => ?_, fun j r' hj k hk => ?_⟩
    · rintro k ⟨j, r', hj, hjm, hk⟩
      obtain ⟨r, hr, e, -⟩ := old hj
      exact ⟨j, r, hr, e.trans hjm, hk⟩
    · rcases hmine j r' hj hjm k hk with h1 | ⟨j2, r2, hj2, hm2, hk2⟩
      · exact .inl h1
      · obtain ⟨r, hr, e, -⟩ := old hj2
        exact .inr ⟨j2, r, hr, e.trans hm2, hk2⟩
    · rcases hfoot j r' hj k hk with h1 | ⟨j2, r2, hj2, hk2⟩
      · exact .inl h1
      · obtain ⟨r, hr, -⟩ := old hj2
        exact .inr ⟨j2, r, hr, hk2⟩
/-- A fresh builder. -/
theorem sc_fresh {i TB TU : Nat} (hi : bs[i]? = some (.cells [.v (.pointer none), .nils] TB true)) (h : SC V f args (bs.set i (.ext (BldR TB TU []))) R) : SC V f args bs R := by
  refine sc_view (r1 := .ext (BldR TB TU [])) hi rfl (fun β fp w hh => ?_) h
  obtain ⟨h0, ⟨rest, fz, hd, rfl⟩, h3⟩ := hh
  refine ⟨h0, Value.pointer none, ⟨0, 0, 0⟩, fun _ => False, .inl rfl, ⟨fz, ?_⟩, holds_nil, not_false, fun k => (h3 k).trans ⟨.inl, fun h => h.elim id False.elim⟩⟩
  simpa [conc, oV] using hd
/-- A call at a builder may be shown at its parts. -/
theorem sc_open {i TB TU : Nat} {l : List UInt8} (hi : bs[i]? = some (.ext (BldR TB TU l))) {R' : SV → List Res → Prop}
    (h : ∀ x, (x = .v (.pointer none) ∨ x = .p i 0) → SC V f args (bs.set i (.cells [x, .o bs.length l.length] TB true) ++ [.own (l.map u8S) TU 1 l.length true]) R')
    (hR : ∀ r bs', R' r bs' → ∃ x j l', flat r = true ∧ (x = .v (.pointer none) ∨ x = .p i 0) ∧ R r (bs.set i (.ext (BldR TB TU l'))) ∧ bs'[i]? = some (.cells [x, .o j l'.length] TB true) ∧ bs'[j]? = some (.own (l'.map u8S) TU 1 l'.length true) ∧
      bs.length ≤ j ∧ ∀ k, k < bs.length → k ≠ i → bs'[k]? = bs[k]?)
    (hargs : within.withinL bs.length args = true) : SC V f args bs R := by
  have hil : i < bs.length := (List.getElem?_eq_some_iff.1 hi).1
  refine ⟨(h _ (.inl rfl)).1, fun β fp w hbx hG hE => ?_⟩
  have hb0 := hbx β (Agr.refl _ _)
  obtain ⟨h0, p, t2, f2, hp, ⟨fz, hd⟩, hrow, hnb, hfp⟩ := hb0.holds i _ hi
  obtain ⟨x, hx, hxc⟩ : ∃ x : SV, (x = .v (.pointer none) ∨ x = .p i 0) ∧ ∀ β', Agr bs.length β β' → conc β' x = p := by
    rcases hp with rfl | rfl
    · exact ⟨_, .inl rfl, fun _ _ => rfl⟩
    · exact ⟨_, .inr rfl, fun β' hβ => by simp only [conc]; rw [← hβ i hil, h0]⟩
  let β₁ := upd β bs.length t2
  let fp₁ : Nat → Nat → Prop := fun j k => if j = i then k = (β i).blk else if j = bs.length then f2 k else fp j k
  have agr1 : ∀ {β'}, Agr (bs.length + 1) β₁ β' → Agr bs.length β β' := fun {β'} hβ j hj => by
    rw [← hβ j (by omega)]; simp only [β₁, upd]; rw [if_neg (by omega)]
  have at1 : ∀ {β'}, Agr (bs.length + 1) β₁ β' → β' bs.length = t2 := fun {β'} hβ => by
    rw [← hβ bs.length (by omega)]; simp [β₁, upd]
  have old : ∀ {j r'}, (bs.set i (.cells [x, .o bs.length l.length] TB true) ++ [.own (l.map u8S) TU 1 l.length true])[j]? = some r' →
      (j = i ∧ r' = .cells [x, .o bs.length l.length] TB true) ∨ (j = bs.length ∧ r' = .own (l.map u8S) TU 1 l.length true) ∨ (j < bs.length ∧ j ≠ i ∧ bs[j]? = some r') := fun {j r'} hj => by
    have hjl : j < bs.length + 1 := by
      have := (List.getElem?_eq_some_iff.1 hj).1
      simpa using this
    by_cases hjm : j = bs.length
    · subst hjm
      rw [List.getElem?_append_right (by simp)] at hj
      simp at hj
      exact .inr (.inl ⟨rfl, hj.symm⟩)
    · rw [List.getElem?_append_left (by simp; omega)] at hj
      by_cases hji : j = i
      · subst hji
        rw [List.getElem?_set_self hil] at hj
        exact .inl ⟨rfl, (Option.some.inj hj).symm⟩
      · rw [List.getElem?_set_ne (fun e => hji e.symm)] at hj
        exact .inr (.inr ⟨by omega, hji, hj⟩)
  have in1 : ∀ {j r'}, (bs.set i (.cells [x, .o bs.length l.length] TB true) ++ [.own (l.map u8S) TU 1 l.length true])[j]? = some r' → r'.mine = true → ∀ k, fp₁ j k → ∃ j2 r2, bs[j2]? = some r2 ∧ r2.mine = true ∧ fp j2 k := fun {j r'} hj hm k hk => by
    rcases old hj with ⟨rfl, rfl⟩ | ⟨rfl, rfl⟩ | ⟨hj1, hj2, hj3⟩
    · refine ⟨j, _, hi, rfl, (hfp k).2 (.inl ?_)⟩
      simpa [fp₁] using hk
    · refine ⟨i, _, hi, rfl, (hfp k).2 (.inr ?_)⟩
      simpa [fp₁, Nat.ne_of_gt hil] using hk
    · exact ⟨j, r', hj3, hm, by simpa [fp₁, hj2, Nat.ne_of_lt hj1] using hk⟩
  have inF : ∀ {j r'}, (bs.set i (.cells [x, .o bs.length l.length] TB true) ++ [.own (l.map u8S) TU 1 l.length true])[j]? = some r' → ∀ k, fp₁ j k → ∃ j2 r2, bs[j2]? = some r2 ∧ fp j2 k := fun {j r'} hj k hk => by
    rcases old hj with ⟨rfl, rfl⟩ | ⟨rfl, rfl⟩ | ⟨hj1, hj2, hj3⟩
    · refine ⟨j, _, hi, (hfp k).2 (.inl ?_)⟩
      simpa [fp₁] using hk
    · refine ⟨i, _, hi, (hfp k).2 (.inr ?_)⟩
      simpa [fp₁, Nat.ne_of_gt hil] using hk
    · exact ⟨j, r', hj3, by simpa [fp₁, hj2, Nat.ne_of_lt hj1] using hk⟩
  have ea : concL β args = concL β₁ args := concL_within bs.length args hargs β β₁ (fun j hj => by simp only [β₁, upd]; rw [if_neg (by omega)])
  rw [ea]
  refine ((h x hx).2 β₁ fp₁ w (fun β' hβ => ?_) (fun j r hj hm k hk => ?_) hE).mono ?_
  · have hβq : Agr (bs.length + 1) β₁ β' := by simpa using hβ
    clear hβ
    have hb := hbx β' (agr1 hβq)
    have hbi : β' i = β i := (agr1 hβq i hil).symm
    refine ⟨fun j r' hj => ?_, fun j r' hj k hk => ?_, fun j q a b hj hq hne hmm k hk hk2 => ?_⟩
    · rcases old hj with ⟨rfl, rfl⟩ | ⟨rfl, rfl⟩ | ⟨hj1, hj2, hj3⟩
      · refine ⟨by rw [hbi]; exact h0, ⟨[], fz, ?_, rfl⟩, fun k => by simp [fp₁, hbi]⟩
        rw [hbi]
        simpa [hxc β' (agr1 hβq), conc, at1 hβq] using hd
      · rw [at1 hβq]
        have e : fp₁ bs.length = f2 := by funext k; simp [fp₁, Nat.ne_of_gt hil]
        rw [e]
        exact holds_u8 hrow
      · have e : fp₁ j = fp j := by funext k; simp [fp₁, hj2, Nat.ne_of_lt hj1]
        rw [e]
        exact hb.holds j _ hj3
    · rcases old hj with ⟨rfl, rfl⟩ | ⟨rfl, rfl⟩ | ⟨hj1, hj2, hj3⟩
      · exact hb.lt j _ hi k ((hfp k).2 (.inl (by simpa [fp₁] using hk)))
      · exact hb.lt i _ hi k ((hfp k).2 (.inr (by simpa [fp₁, Nat.ne_of_gt hil] using hk)))
      · exact hb.lt j _ hj3 k (by simpa [fp₁, hj2, Nat.ne_of_lt hj1] using hk)
    · rcases old hj with ⟨rfl, rfl⟩ | ⟨rfl, rfl⟩ | ⟨hj1, hj2, hj3⟩ <;> rcases old hq with ⟨rfl, rfl⟩ | ⟨rfl, rfl⟩ | ⟨hq1, hq2, hq3⟩
      · exact hne rfl
      · have e1 : k = (β j).blk := by simpa [fp₁] using hk
        have e2 : f2 k := by simpa [fp₁, Nat.ne_of_gt hil] using hk2
        exact hnb (e1 ▸ e2)
      · have e1 : k = (β j).blk := by simpa [fp₁] using hk
        have e2 : fp q k := by simpa [fp₁, hq2, Nat.ne_of_lt hq1] using hk2
        exact hb.sep j q _ _ hi hq3 hne (.inl rfl) k ((hfp k).2 (.inl e1)) e2
      · have e2 : k = (β q).blk := by simpa [fp₁] using hk2
        have e1 : f2 k := by simpa [fp₁, Nat.ne_of_gt hil] using hk
        exact hnb (e2 ▸ e1)
      · exact hne rfl
      · have e1 : f2 k := by simpa [fp₁, Nat.ne_of_gt hil] using hk
        have e2 : fp q k := by simpa [fp₁, hq2, Nat.ne_of_lt hq1] using hk2
        exact hb.sep i q _ _ hi hq3 (fun e => hq2 e.symm) (.inl rfl) k ((hfp k).2 (.inr e1)) e2
      · have e1 : k = (β q).blk := by simpa [fp₁] using hk2
        have e2 : fp j k := by simpa [fp₁, hj2, Nat.ne_of_lt hj1] using hk
        exact hb.sep q j _ _ hi hj3 (fun e => hne e.symm) (.inl rfl) k ((hfp k).2 (.inl e1)) e2
      · have e1 : f2 k := by simpa [fp₁, Nat.ne_of_gt hil] using hk2
        have e2 : fp j k := by simpa [fp₁, hj2, Nat.ne_of_lt hj1] using hk
        exact hb.sep i j _ _ hi hj3 (fun e => hj2 e.symm) (.inl rfl) k ((hfp k).2 (.inr e1)) e2
      · exact hb.sep j q _ _ hj3 hq3 hne hmm k (by simpa [fp₁, hj2, Nat.ne_of_lt hj1] using hk) (by simpa [fp₁, hq2, Nat.ne_of_lt hq1] using hk2)
  · obtain ⟨j2, r2, h1, h2, h3⟩ := in1 hj hm k hk
    exact hG j2 r2 h1 h2 k h3
  · rintro e w' ⟨r, bs', β₂, fp₂, hR', hag, hlen, hall, hfr, hmine, hfoot⟩
    have hag : Agr (bs.length + 1) β₁ β₂ := by simpa using hag
    have hlen : bs.length + 1 ≤ bs'.length := by simpa using hlen
    obtain ⟨x', j, l', hfl, hx', hRr, hbi, hbj, hjm, hoth⟩ := hR r bs' hR'
    have hjl : j < bs'.length := (List.getElem?_eq_some_iff.1 hbj).1
    have hag2 : Agr bs.length β β₂ := agr1 hag
    let fp₃ : Nat → Nat → Prop := fun q k => if q = i then fp₂ i k ∨ fp₂ j k else fp₂ q k
    have lift : ∀ {β'}, Agr bs.length β₂ β' → ∃ β'', Agr bs'.length β₂ β'' ∧ Agr bs.length β'' β' := fun {β'} hβ =>
      ⟨β₂, Agr.refl _ _, hβ⟩
    have old2 : ∀ {q r'}, (bs.set i (.ext (BldR TB TU l')))[q]? = some r' → (q = i ∧ r' = .ext (BldR TB TU l')) ∨ (q < bs.length ∧ q ≠ i ∧ bs[q]? = some r' ∧ bs'[q]? = some r') := fun {q r'} hq => by
      by_cases hqi : q = i
      · subst hqi
        rw [List.getElem?_set_self hil] at hq
        exact .inl ⟨rfl, (Option.some.inj hq).symm⟩
      · rw [List.getElem?_set_ne (fun e => hqi e.symm)] at hq
        have hql : q < bs.length := (List.getElem?_eq_some_iff.1 hq).1
        exact .inr ⟨hql, hqi, hq, (hoth q hql hqi).trans hq⟩
    refine ⟨r, bs.set i (.ext (BldR TB TU l')), β₂, fp₃, hRr, hag2, by simp, fun β' hβ => ?_, hfr.mono ?_, fun q r' hq hqm k hk => ?_, fun q r' hq k hk => ?_⟩
    · rw [List.length_set] at hβ
      -- the things of the caller are read at any β' that agrees on them
      let β'' : Nat → Bt := fun q => if q < bs.length then β' q else β₂ q
      have hβ2 : Agr bs'.length β₂ β'' := fun q hq => by
        show _ = if _ then _ else _
        split
        · rename_i hlt; exact hβ q hlt
        · rfl
      obtain ⟨he, hb⟩ := hall β'' hβ2
      refine ⟨by rw [he, conc_flat r hfl β'' β'], ?_⟩
      have hbi' : β'' i = β₂ i := (hβ2 i (by omega)).symm
      have hbi2 : β' i = β₂ i := (hβ i hil).symm
      refine ⟨fun q r' hq => ?_, fun q r' hq k hk => ?_, fun q s a b hq hs hne hmm k hk hk2 => ?_⟩
      · rcases old2 hq with ⟨rfl, rfl⟩ | ⟨h1, h2, h3, h4⟩
        · obtain ⟨k0, ⟨rest, fz', hd', rfl⟩, k3⟩ := hb.holds _ _ hbi
          have hrow' := hb.holds _ _ hbj
          refine ⟨by rw [hbi2, ← hbi']; exact k0, conc β'' x', β'' j, fp₂ j, ?_, ⟨fz', ?_⟩, holds_u8 hrow', ?_, fun k => ?_⟩
          · rcases hx' with rfl | rfl
            · exact .inl rfl
            · right
              simp only [conc]
              rw [k0, hbi', hbi2]
          · rw [hbi2, ← hbi']
            simpa [conc] using hd'
          · intro hc
            have : fp₂ q (β'' q).blk := (k3 _).2 rfl
            rw [hbi2, ← hbi'] at hc
            exact hb.sep q j _ _ hbi hbj (by omega) (.inl rfl) _ this hc
          · show (if _ then _ else _) ↔ _
            rw [if_pos rfl, k3 k, hbi', hbi2]
        · have e : fp₃ q = fp₂ q := by funext k; show (if _ then _ else _) = _; rw [if_neg h2]
          rw [e]
          have e2 : β' q = β'' q := by show _ = if _ then _ else _; rw [if_pos h1]
          have := hb.holds _ _ h4
          rw [e2]
          -- what it holds of cells looks at β'' alone through the things of the caller
          have hA : Agr bs.length β β' := fun q hq => (hag2 q hq).trans (hβ q hq)
          have hA2 : Agr bs.length β β'' := fun q hq => (hag2 q hq).trans (hβ2 q (by omega))
          have u1 := (hbx β'' hA2).holds q _ h3
          have u2 := (hbx β' hA).holds q _ h3
          rw [e2] at u2
          exact res_agr u1 u2 this
      · rcases old2 hq with ⟨rfl, rfl⟩ | ⟨h1, h2, h3, h4⟩
        · have hk : fp₂ q k ∨ fp₂ j k := by simpa [fp₃] using hk
          rcases hk with hk | hk
          · exact hb.lt _ _ hbi k hk
          · exact hb.lt _ _ hbj k hk
        · exact hb.lt _ _ h4 k (by simpa [fp₃, h2] using hk)
      · rcases old2 hq with ⟨rfl, rfl⟩ | ⟨h1, h2, h3, h4⟩ <;> rcases old2 hs with ⟨rfl, rfl⟩ | ⟨g1, g2, g3, g4⟩
        · exact hne rfl
        · have hk2 : fp₂ s k := by simpa [fp₃, g2] using hk2
          have hk : fp₂ q k ∨ fp₂ j k := by simpa [fp₃] using hk
          rcases hk with hk | hk
          · exact hb.sep _ _ _ _ hbi g4 hne (.inl rfl) k hk hk2
          · exact hb.sep _ _ _ _ hbj g4 (by omega) (.inl rfl) k hk hk2
        · have hk : fp₂ q k := by simpa [fp₃, h2] using hk
          have hk2 : fp₂ s k ∨ fp₂ j k := by simpa [fp₃] using hk2
          rcases hk2 with hk2 | hk2
          · exact hb.sep _ _ _ _ hbi h4 (fun e => hne e.symm) (.inl rfl) k hk2 hk
          · exact hb.sep _ _ _ _ hbj h4 (by omega) (.inl rfl) k hk2 hk
        · exact hb.sep _ _ _ _ h4 g4 hne hmm k (by simpa [fp₃, h2] using hk) (by simpa [fp₃, g2] using hk2)
    · rintro k ⟨j1, r1, hj1, hm1, hk1⟩
      exact in1 hj1 hm1 k hk1
    · rcases old2 hq with ⟨rfl, rfl⟩ | ⟨h1, h2, h3, h4⟩
      · have hk : fp₂ q k ∨ fp₂ j k := by simpa [fp₃] using hk
        rcases hk with hk | hk
        · rcases hmine _ _ hbi rfl k hk with h1 | ⟨j1, r1, hj1, hm1, hk1⟩
          · exact .inl h1
          · exact .inr (in1 hj1 hm1 k hk1)
        · rcases hmine _ _ hbj rfl k hk with h1 | ⟨j1, r1, hj1, hm1, hk1⟩
          · exact .inl h1
          · exact .inr (in1 hj1 hm1 k hk1)
      · rcases hmine _ _ h4 hqm k (by simpa [fp₃, h2] using hk) with h1 | ⟨j1, r1, hj1, hm1, hk1⟩
        · exact .inl h1
        · exact .inr (in1 hj1 hm1 k hk1)
    · rcases old2 hq with ⟨rfl, rfl⟩ | ⟨h1, h2, h3, h4⟩
      · have hk : fp₂ q k ∨ fp₂ j k := by simpa [fp₃] using hk
        rcases hk with hk | hk
        · rcases hfoot _ _ hbi k hk with h1 | ⟨j1, r1, hj1, hk1⟩
          · exact .inl h1
          · exact .inr (inF hj1 k hk1)
        · rcases hfoot _ _ hbj k hk with h1 | ⟨j1, r1, hj1, hk1⟩
          · exact .inl h1
          · exact .inr (inF hj1 k hk1)
      · rcases hfoot _ _ h4 k (by simpa [fp₃, h2] using hk) with h1 | ⟨j1, r1, hj1, hk1⟩
        · exact .inl h1
        · exact .inr (inF hj1 k hk1)
/-- A call that changes one thing of the caller's, shown directly. -/
theorem sc_direct {i : Nat} {r0 r1 : Res} {r : SV} (hi : bs[i]? = some r0) (hm : r0.mine = true) (hent : Enters V f) (hr : flat r = true)
    (h : ∀ (β : Nat → Bt) (fp : Nat → Nat → Prop) (w : World), V.E w → (∀ β', Agr bs.length β β' → Holds β' (β' i) (fp i) w r0) → Calls V.P f (concL β args).toArray w fun e w' => e = .returned (conc bt0 r) ∧ FrW (fp i) w w' ∧ ∃ f1 : Nat → Prop, (∀ k, f1 k → fp i k) ∧ ∀ β', Agr bs.length β β' → Holds β' (β' i) f1 w' r1) :
    SC V f args bs (fun r' bs' => r' = r ∧ bs' = bs.set i r1) := by
  have hil : i < bs.length := (List.getElem?_eq_some_iff.1 hi).1
  refine ⟨hent, fun β fp w hbx hG hE => ?_⟩
  refine (h β fp w hE (fun β' hβ => (hbx β' hβ).holds i _ hi)).mono ?_
  rintro e w' ⟨rfl, hfr, f1, hf1, hh⟩
  have old : ∀ {j r'}, (bs.set i r1)[j]? = some r' → (j = i ∧ r' = r1) ∨ (j ≠ i ∧ bs[j]? = some r') := fun {j r'} hj => by
    by_cases hji : j = i
    · subst hji
      rw [List.getElem?_set_self hil] at hj
      exact .inl ⟨rfl, (Option.some.inj hj).symm⟩
    · rw [List.getElem?_set_ne (fun e => hji e.symm)] at hj
      exact .inr ⟨hji, hj⟩
  let fp₂ : Nat → Nat → Prop := fun j k => if j = i then f1 k else fp j k
  refine ⟨r, bs.set i r1, β, fp₂, ⟨rfl, rfl⟩, Agr.refl _ _, by simp, fun β' hβ => ⟨by rw [conc_flat r hr bt0 β'], ?_⟩, hfr.mono (fun k hk => ⟨i, _, hi, hm, hk⟩), fun j r' hj hjm k hk => ?_, fun j r' hj k hk => ?_⟩
  · rw [List.length_set] at hβ
    have hb := hbx β' hβ
    refine ⟨fun j r' hj => ?_, fun j r' hj k hk => ?_, fun j l a b hj hl hne hmm k hk hk2 => ?_⟩
    · rcases old hj with ⟨rfl, rfl⟩ | ⟨h1, h2⟩
      · have e : fp₂ j = f1 := by funext k; simp [fp₂]
        rw [e]; exact hh β' hβ
      · have e : fp₂ j = fp j := by funext k; simp [fp₂, h1]
        rw [e]
        exact (hb.holds j _ h2).stays (fun k hk => hfr.block k (hb.lt j _ h2 k hk) (fun hki => hb.sep i j _ _ hi h2 (fun e => h1 e.symm) (.inl hm) k hki hk))
    · rcases old hj with ⟨rfl, rfl⟩ | ⟨h1, h2⟩
      · exact Nat.lt_of_lt_of_le (hb.lt _ _ hi k (hf1 k (by simpa [fp₂] using hk))) hfr.size
      · exact Nat.lt_of_lt_of_le (hb.lt j _ h2 k (by simpa [fp₂, h1] using hk)) hfr.size
    · rcases old hj with ⟨rfl, rfl⟩ | ⟨h1, h2⟩ <;> rcases old hl with ⟨rfl, rfl⟩ | ⟨g1, g2⟩
      · exact hne rfl
      · exact hb.sep _ _ _ _ hi g2 hne (.inl hm) k (hf1 k (by simpa [fp₂] using hk)) (by simpa [fp₂, g1] using hk2)
      · exact hb.sep _ _ _ _ hi h2 (fun e => hne e.symm) (.inl hm) k (hf1 k (by simpa [fp₂] using hk2)) (by simpa [fp₂, h1] using hk)
      · exact hb.sep _ _ _ _ h2 g2 hne hmm k (by simpa [fp₂, h1] using hk) (by simpa [fp₂, g1] using hk2)
  · rcases old hj with ⟨rfl, rfl⟩ | ⟨h1, h2⟩
    · exact .inr ⟨_, _, hi, hm, hf1 k (by simpa [fp₂] using hk)⟩
    · exact .inr ⟨j, r', h2, hjm, by simpa [fp₂, h1] using hk⟩
  · rcases old hj with ⟨rfl, rfl⟩ | ⟨h1, h2⟩
    · exact .inr ⟨_, _, hi, hf1 k (by simpa [fp₂] using hk)⟩
    · exact .inr ⟨j, r', h2, by simpa [fp₂, h1] using hk⟩
/-- The contract may say less. -/
theorem SC.mono {R R' : SV → List Res → Prop} (h : SC V f args bs R) (k : ∀ r bs', R r bs' → R' r bs') : SC V f args bs R' := by
  refine ⟨h.1, fun β fp w hbx hG hE => (h.2 β fp w hbx hG hE).mono ?_⟩
  rintro e w' ⟨r, bs', β₂, fp₂, hR, h2⟩
  exact ⟨r, bs', β₂, fp₂, k _ _ hR, h2⟩
/-! slices that grow -/
theorem at_new (b : List Res) (X : Res) : (b ++ [X])[b.length]? = some X := by simp
theorem at_old {b : List Res} {j : Nat} {r : Res} (h : b[j]? = some r) (X : List Res) : (b ++ X)[j]? = some r := by
  rw [List.getElem?_append_left ((List.getElem?_eq_some_iff.1 h).1)]; exact h
/-- A slice that is nil, or a row of the call's own that came after the first L things. -/
def Sl (e s L : Nat) (x : SV) (b : List Res) (c : List SV) (n : Nat) : Prop := (x = .nils ∧ c = [] ∧ n = 0) ∨ ∃ j, x = .o j n ∧ L ≤ j ∧ b[j]? = some (.own c e s n true)
/-- The things of the start stand as they stood. -/
def Kp (bs b : List Res) : Prop := bs.length ≤ b.length ∧ ∀ k, k < bs.length → b[k]? = bs[k]?
theorem Kp.refl (bs : List Res) : Kp bs bs := ⟨Nat.le_refl _, fun _ _ => rfl⟩
theorem Kp.trans {a b c : List Res} (h : Kp a b) (k : Kp b c) : Kp a c := ⟨Nat.le_trans h.1 k.1, fun i hi => (k.2 i (Nat.lt_of_lt_of_le hi h.1)).trans (h.2 i hi)⟩
theorem Kp.app {bs b : List Res} (h : Kp bs b) (X : List Res) : Kp bs (b ++ X) := ⟨by rw [List.length_append]; have := h.1; omega, fun k hk => by rw [List.getElem?_append_left (by have := h.1; omega)]; exact h.2 k hk⟩
theorem Kp.set {bs b : List Res} (h : Kp bs b) {j : Nat} (hj : bs.length ≤ j) (X : Res) : Kp bs (b.set j X) := ⟨by rw [List.length_set]; exact h.1, fun k hk => by rw [List.getElem?_set_ne (by omega)]; exact h.2 k hk⟩
theorem Kp.at {bs b : List Res} (h : Kp bs b) {j : Nat} {r : Res} (hj : bs[j]? = some r) : b[j]? = some r := (h.2 j ((List.getElem?_eq_some_iff.1 hj).1)).trans hj
theorem Sl.app {e s L : Nat} {x : SV} {b : List Res} {c : List SV} {n : Nat} (h : Sl e s L x b c n) (X : List Res) : Sl e s L x (b ++ X) c n := by
  rcases h with h | ⟨j, h1, h2, h3⟩
  · exact .inl h
  · exact .inr ⟨j, h1, h2, at_old h3 X⟩
theorem set_new {α : Type} (b : List α) (X Y : α) : (b ++ [X]).set b.length Y = b ++ [Y] := by simp
theorem set_prev {α : Type} (b : List α) (X Y Z : α) : (b ++ [X] ++ [Y]).set b.length Z = b ++ [Z] ++ [Y] := by simp
theorem set_prev2 {α : Type} (b : List α) (X Y Z W : α) : (b ++ [X] ++ [Y] ++ [W]).set b.length Z = b ++ [Z] ++ [Y] ++ [W] := by simp
theorem at_prev {α : Type} (b : List α) (X Y : α) : (b ++ [X] ++ [Y])[b.length]? = some X := by simp
theorem at_prev2 {α : Type} (b : List α) (X Y Z : α) : (b ++ [X] ++ [Y] ++ [Z])[b.length]? = some X := by simp
theorem at_prev3 {α : Type} (b : List α) (X Y Z W : α) : (b ++ [X] ++ [Y] ++ [Z] ++ [W])[b.length]? = some X := by simp
theorem at_prev4 {α : Type} (b : List α) (X Y Z W U : α) : (b ++ [X] ++ [Y] ++ [Z] ++ [W] ++ [U])[b.length]? = some X := by simp
/-- Things that were made just now. -/
def lawB := And.intro (And.intro (@at_new) (And.intro (@at_prev) (@at_prev2))) (And.intro (And.intro (@at_prev3) (@at_prev4)) (And.intro (@set_new) (And.intro (@set_prev) (@set_prev2))))
end Vc
