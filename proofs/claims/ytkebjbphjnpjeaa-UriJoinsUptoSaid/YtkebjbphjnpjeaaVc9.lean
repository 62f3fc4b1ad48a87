/- A calculus of conditions: regions that draw their order. -/
import Derived.Test.YtkebjbphjnpjeaaVc8
set_option linter.all false
namespace Vc
open Go Go.RowKit Wf
section
variable {V : Cx} {F : Fx V} {β : Nat → Bt} {fp : Nat → Nat → Prop}
def rec0 : Rec := ⟨.v undef, none, none⟩
/-- What an operation does, wherever it comes. -/
def OpOK (F : Fx V) (β : Nat → Bt) (fp : Nat → Nat → Prop) (ops : Array Oper) (m i : Nat) (ti : List (Nat × SV)) (bi : List Res) (r : Rec) : Prop :=
  ∀ (Q : Exit → Act → World → Prop) (K : Act → World → Prop) (a : Act) (w : World) (bs : List Res) (ta : List (Nat × SV)) (o : Oper), ops[i]? = some o →
    bs.length = m → Fm F β m ta a → (∀ d ∈ o.looksAt ops, lk d ta = lk d ti) → Wd F β fp bs w → seen r.fp bi bs →
    (∀ w', Wd F β fp (stB bs r.st) w' → K (a.put o.dst (conc β r.x)) w') → wpOp V.P ops Q i K a w
def uT (β : Nat → Bt) (ops : Array Oper) (recs : List Rec) (k : Nat) (a : Act) : Act := a.put ((ops[k]?).bind (·.dst)) (conc β (recs.getD k rec0).x)
def uB (recs : List Rec) (k : Nat) (bs : List Res) : List Res := stB bs (recs.getD k rec0).st
def keep (L : List Nat) (t : List (Nat × SV)) : List (Nat × SV) := t.filter fun p => L.contains p.1
theorem lk_keep (L : List Nat) (d : Nat) : ∀ (t : List (Nat × SV)), lk d (keep L t) = if L.contains d then lk d t else none
  | [] => by simp [keep, lk]
  | (e, x) :: r => by
    have ih := lk_keep L d r
    unfold keep at ih ⊢
    rw [List.filter_cons]
    by_cases he : L.contains e = true
    · rw [if_pos (by simpa using he)]
      simp only [lk]
      by_cases hd : d = e
      · subst hd; rw [if_pos rfl, if_pos he, if_pos rfl]
      · rw [if_neg hd, if_neg hd]; exact ih
    · rw [if_neg (by simpa using he), ih]
      by_cases hd : d = e
      · subst hd; simp only [if_neg he]
      · simp only [lk, if_neg hd]
theorem set_ne {arr : Array Value} {e d : Nat} (h : e ≠ d) (v u : Value) : (arr.setIfInBounds e v).getD d u = arr.getD d u := by
  rw [Array.getD_eq_getD_getElem?, Array.getElem?_setIfInBounds_ne h, ← Array.getD_eq_getD_getElem?]
theorem obs_act (β : Nat → Bt) (ops : Array Oper) (recs : List Rec) (d k : Nat) (a a' : Act) (h : (a.tmps.size, a.tmps.getD d undef) = (a'.tmps.size, a'.tmps.getD d undef)) :
    ((uT β ops recs k a).tmps.size, (uT β ops recs k a).tmps.getD d undef) = ((uT β ops recs k a').tmps.size, (uT β ops recs k a').tmps.getD d undef) := by
  simp only [Prod.mk.injEq] at h
  unfold uT Act.put
  cases (ops[k]?).bind (·.dst) with
  | none => simp [h.1, h.2]
  | some e =>
    simp only [Array.size_setIfInBounds, h.1, Prod.mk.injEq, true_and]
    by_cases hd : e = d
    · subst hd
      by_cases hlt : e < a.tmps.size
      · simp [hlt, h.1 ▸ hlt]
      · simp [hlt, h.1 ▸ hlt]
    · rw [set_ne hd, set_ne hd]
      exact h.2
theorem act_changed {ops : Array Oper} {recs : List Rec} {d k : Nat} (h : ∃ a : Act, ((uT β ops recs k a).tmps.size, (uT β ops recs k a).tmps.getD d undef) ≠ (a.tmps.size, a.tmps.getD d undef)) : (ops[k]?).bind (·.dst) = some d := by
  obtain ⟨a, h⟩ := h
  unfold uT Act.put at h
  cases hk : (ops[k]?).bind (·.dst) with
  | none => rw [hk] at h; simp at h
  | some e =>
    rw [hk] at h
    by_cases hd : e = d
    · rw [hd]
    · simp only [Array.size_setIfInBounds, ne_eq, Prod.mk.injEq, true_and] at h
      rw [set_ne hd] at h
      exact absurd rfl h
theorem fold_defers (ops : Array Oper) (recs : List Rec) (D : Nat → Bool) : ∀ (n : Nat) (a : Act), (foldD (uT β ops recs) D n a).defers = a.defers
  | 0, _ => rfl
  | n + 1, a => by
    simp only [foldD]
    split
    · have e : ∀ a : Act, (uT β ops recs n a).defers = a.defers := fun a => by unfold uT Act.put; cases (ops[n]?).bind (·.dst) <;> rfl
      rw [e]; exact fold_defers ops recs D n a
    · exact fold_defers ops recs D n a
theorem fold_size (ops : Array Oper) (recs : List Rec) (D : Nat → Bool) : ∀ (n : Nat) (a : Act), (foldD (uT β ops recs) D n a).tmps.size = a.tmps.size
  | 0, _ => rfl
  | n + 1, a => by
    simp only [foldD]
    split
    · have e : ∀ a : Act, (uT β ops recs n a).tmps.size = a.tmps.size := fun a => by unfold uT Act.put; cases (ops[n]?).bind (·.dst) <;> simp
      rw [e]; exact fold_size ops recs D n a
    · exact fold_size ops recs D n a
theorem stB_length (bs : List Res) (s : Option (Nat × Nat × List SV)) : (stB bs s).length = bs.length := by
  unfold stB
  split
  · rfl
  · split <;> simp [setB_length]
theorem fold_length (recs : List Rec) (D : Nat → Bool) : ∀ (n : Nat) (bs : List Res), (foldD (uB recs) D n bs).length = bs.length
  | 0, _ => rfl
  | n + 1, bs => by
    simp only [foldD]
    split
    · unfold uB; rw [stB_length]; exact fold_length recs D n bs
    · exact fold_length recs D n bs
theorem look_st (j p : Nat) (bs : List Res) (s : Option (Nat × Nat × List SV)) :
    ((stB bs s)[j]?).map (look p) = (match s with
      | some (i, off, ys) => if i = j ∧ off ≤ p ∧ p < off + ys.length then ((bs[j]?).map (look p)).map fun q => (q.1, q.2.1, q.2.2.map fun _ => ys.getD (p - off) (.v undef))
        else (bs[j]?).map (look p)
      | none => (bs[j]?).map (look p)) := by
  cases s with
  | none => rfl
  | some q =>
    obtain ⟨i, off, ys⟩ := q
    simp only [stB]
    cases hg : getB bs i with
    | none =>
      simp only
      split
      · rename_i hc
        obtain ⟨rfl, -⟩ := hc
        cases hb : bs[i]? with
        | none => rfl
        | some r => cases r <;> simp [getB, hb] at hg <;> rfl
      · rfl
    | some q =>
      obtain ⟨c, T, m⟩ := q
      obtain ⟨r, hr, hcr, -⟩ := getB_shape hg
      have hi : i < bs.length := getB_lt hg
      simp only [setB_at hr]
      have hcells : cellsR (setR (setL c off ys) r) = setL c off ys := by
        obtain ⟨r0, hr0, -, hc0⟩ := getB_some hg
        rw [hr] at hr0
        cases hr0
        rcases hc0 with rfl | ⟨s, n, rfl⟩ <;> rfl
      by_cases hij : i = j
      · subst hij
        rw [List.getElem?_set_self hi, hr]
        simp only [Option.map_some, look, shape_setR, hcells, hcr]
        simp only [setL, List.length_mapIdx, List.getElem?_mapIdx, true_and]
        split
        · rename_i hp
          cases hcp : c[p]? with
          | none => rfl
          | some v =>
            have hlt : p - off < ys.length := by omega
            simp [hp, List.getD_eq_getElem?_getD, List.getElem?_eq_getElem hlt]
        · rename_i hp
          cases hcp : c[p]? with
          | none => rfl
          | some v => simp [hp]
      · rw [List.getElem?_set_ne hij, if_neg (fun h => hij h.1)]
theorem obs_bx (recs : List Rec) (j p k : Nat) (bs bs' : List Res) (h : (bs[j]?).map (look p) = (bs'[j]?).map (look p)) : ((uB recs k bs)[j]?).map (look p) = ((uB recs k bs')[j]?).map (look p) := by
  unfold uB
  rw [look_st, look_st]
  split
  · rw [h]
  · exact h
theorem bx_changed {recs : List Rec} {j p k : Nat} (h : ∃ bs : List Res, ((uB recs k bs)[j]?).map (look p) ≠ (bs[j]?).map (look p)) : ∃ off ys, (recs.getD k rec0).st = some (j, off, ys) ∧ off ≤ p ∧ p < off + ys.length := by
  obtain ⟨bs, h⟩ := h
  unfold uB at h
  rw [look_st] at h
  cases hs : (recs.getD k rec0).st with
  | none => rw [hs] at h; simp at h
  | some q =>
    obtain ⟨i, off, ys⟩ := q
    rw [hs] at h
    simp only at h
    split at h
    · rename_i hc
      obtain ⟨rfl, h1, h2⟩ := hc
      exact ⟨off, ys, rfl, h1, h2⟩
    · exact absurd rfl h
theorem bs_ext {bs bs' : List Res} (hl : bs.length = bs'.length) (h : ∀ (j p : Nat), (bs[j]?).map (look p) = (bs'[j]?).map (look p)) : bs = bs' := by
  apply List.ext_getElem?
  intro j
  rcases hb : bs[j]? with _ | r
  · have : bs'[j]? = none := by
      rw [List.getElem?_eq_none_iff] at hb ⊢; omega
    rw [this]
  · have h0 := h j
    rw [hb] at h0
    rcases hb' : bs'[j]? with _ | r'
    · have := h0 0; rw [hb'] at this; simp at this
    · rw [hb'] at h0
      congr 1
      simp only [Option.map_some, Option.some.injEq, look, Prod.mk.injEq] at h0
      have hs := (h0 0).1
      have hc : cellsR r = cellsR r' := by
        apply List.ext_getElem?
        intro p
        exact (h0 p).2.2
      rw [← setR_eq r, ← setR_eq r', hs, hc]
/-- What waits, directly or not. -/
theorem dep_closed {ops : Array Oper} {D : Nat → Bool} (hcl : ∀ i o, ops[i]? = some o → D i = true → ∀ e ∈ o.after, Region.binds .any e = true → D e.on = true) :
    ∀ (f i k : Nat), depB ops f i k = true → (∀ o, ops[i]? = some o → ∀ e ∈ o.after, Region.binds .any e = true → D e.on = true) → D k = true
  | 0, i, k, h, _ => by simp [depB] at h
  | f + 1, i, k, h, hp => by
    simp only [depB] at h
    split at h
    · rename_i o ho
      obtain ⟨e, he, h⟩ := Array.any_eq_true'.1 h
      simp only [Bool.and_eq_true, Bool.or_eq_true, beq_iff_eq] at h
      obtain ⟨hb, h⟩ := h
      have hon := hp o ho e he hb
      rcases h with rfl | h
      · exact hon
      · exact dep_closed hcl f e.on k h (fun o' ho' => hcl e.on o' ho' hon)
    · cases h
theorem repl_false (m j : Nat) : (Array.replicate m false).getD j false = false := by
  rcases Nat.lt_or_ge j m with h | h <;> simp [h]
theorem draw_ok {ops : Array Oper} {recs : List Rec} {id m : Nat} {a0 : Act} {w : World} {b0 : List Res} {Q : Exit → Act → World → Prop} (T : Nat → List (Nat × SV)) (hm : b0.length = m)
    (hT : ∀ i, i ≤ ops.size → Fm F β m (T i) (foldD (uT β ops recs) (preD i) i a0))
    (hop : ∀ i, i < ops.size → OpOK F β fp ops m i (T i) (foldD (uB recs) (preD i) i b0) (recs.getD i rec0))
    (hst : ∀ i j off ys, (recs.getD i rec0).st = some (j, off, ys) → (recs.getD i rec0).fp = some (true, j, off, ys.length))
    (hlen : recs.length = ops.size) (hc : OkD ops (recs.map (·.fp))) (hw : Wd F β fp b0 w)
    (hQ : ∀ a w', Fm F β m (T ops.size) a → Wd F β fp (foldD (uB recs) (preD ops.size) ops.size b0) w' → Q .normal a w') : (Code.region id ops true).wp V.P Q a0 w := by
  simp only [OkD, Bool.and_eq_true] at hc
  obtain ⟨hc, hah⟩ := hc
  refine wp_region_any V.mixed ?_
  let n := ops.size
  let Inv : (Nat → Bool) → Act → World → Prop := fun D a w => (a.defers = [] ∧ ∀ d, (a.tmps.size, a.tmps.getD d undef) = ((foldD (uT β ops recs) D n a0).tmps.size, (foldD (uT β ops recs) D n a0).tmps.getD d undef)) ∧
    Wd F β fp (foldD (uB recs) D n b0) w ∧ (∀ i o, ops[i]? = some o → D i = true → ∀ e ∈ o.after, Region.binds .any e = true → D e.on = true)
  have hfps : ∀ k, k < n → (((recs.map (·.fp))[k]?).getD none) = (recs.getD k rec0).fp := fun k hk => by
    have hk' : k < recs.length := by rw [hlen]; exact hk
    simp [List.getD_eq_getElem?_getD, List.getElem?_eq_getElem hk']
  have hcompat : ∀ i k, i < n → k < n → k ≠ i → conflB ops (recs.map (·.fp)) i k = true → (if k < i then depB ops ops.size i k else depB ops ops.size k i) = true := fun i k hi hk hne hcf => by
    have h1 := List.all_eq_true.1 (List.all_eq_true.1 hc i (List.mem_range.2 hi)) k (List.mem_range.2 hk)
    simp only [Bool.or_eq_true, Bool.not_eq_true', hcf, beq_iff_eq] at h1
    rcases h1 with (h1 | h1) | h1
    · exact absurd h1 hne
    · cases h1
    · exact h1
  refine wpAny_inv Inv ?_ ?_ ops.size _ a0 _ (by simp) (by simp) ?_
  · rintro listed a w i hsz ⟨⟨hdf, ha⟩, hwd, hcl⟩ hi
    obtain ⟨hun, o, ho, hall⟩ := mem_ready.1 hi
    have hin : i < n := (Array.getElem?_eq_some_iff.1 ho).1
    have hDi : listed.getD i false = false := by
      have : i < listed.size := by rw [hsz]; exact hin
      simp [this] at hun ⊢; exact hun
    have hpre : ∀ o', ops[i]? = some o' → ∀ e ∈ o'.after, Region.binds .any e = true → listed.getD e.on false = true := fun o' ho' e he hb => by
      rw [ho] at ho'; cases ho'; exact hall e he hb
    obtain ⟨D, hDD⟩ : ∃ D : Nat → Bool, D = fun k => listed.getD k false := ⟨_, rfl⟩
    have hDk : ∀ k, listed.getD k false = D k := fun k => by rw [hDD]
    rw [← hDD] at ha hwd hcl ⊢
    rw [hDk] at hDi
    simp only [hDk] at hpre
    have order : ∀ k, k < n → k ≠ i → conflB ops (recs.map (·.fp)) i k = true → D k = decide (k < i) := fun k hk hne hcf => by
      have h1 := hcompat i k hin hk hne hcf
      split at h1
      · rename_i hlt
        rw [decide_eq_true hlt]
        exact dep_closed hcl _ i k h1 hpre
      · rename_i hlt
        rw [decide_eq_false hlt]
        cases hD : D k with
        | false => rfl
        | true =>
          have := dep_closed hcl _ k i h1 (fun o' ho' => hcl k o' ho' hD)
          rw [hDi] at this
          cases this
    have hconfT : ∀ d, (d ∈ o.looksAt ops ∨ o.dst = some d) → ∀ k, k < n → (∃ a : Act, ((uT β ops recs k a).tmps.size, (uT β ops recs k a).tmps.getD d undef) ≠ (a.tmps.size, a.tmps.getD d undef)) → D k = decide (k < i) := fun d hd k hk hch => by
      by_cases hki : k = i
      · subst hki; rw [hDi]; simp
      · refine order k hk hki ?_
        unfold conflB
        rw [act_changed hch, ho]
        simp only [Bool.or_eq_true, List.contains_iff_mem, beq_iff_eq]
        left
        exact hd
    have hconfM : ∀ j p, (∃ b off len, (recs.getD i rec0).fp = some (b, j, off, len) ∧ off ≤ p ∧ p < off + len) → ∀ k, k < n → (∃ bs : List Res, ((uB recs k bs)[j]?).map (look p) ≠ (bs[j]?).map (look p)) → D k = decide (k < i) := fun j p hf k hk hch => by
      by_cases hki : k = i
      · subst hki; rw [hDi]; simp
      · refine order k hk hki ?_
        obtain ⟨off, ys, hs, h1, h2⟩ := bx_changed hch
        obtain ⟨b, off', len, hfp, h3, h4⟩ := hf
        unfold conflB
        rw [hfps k hk, hfps i hin, hst k j off ys hs, hfp]
        simp only [overB, Bool.or_eq_true]
        right
        simp
        omega
    have hlooks : ∀ d, d ∈ o.looksAt ops → (a.tmps.size, a.tmps.getD d undef) = ((foldD (uT β ops recs) (preD i) i a0).tmps.size, (foldD (uT β ops recs) (preD i) i a0).tmps.getD d undef) := fun d hd =>
      (ha d).trans (fold_see (uT β ops recs) (fun a : Act => (a.tmps.size, a.tmps.getD d undef)) (fun k s s' e => obs_act β ops recs d k s s' e) _ n i a0 (Nat.le_of_lt hin) (hconfT d (.inl hd)))
    have hsize : a.tmps.size = F.n := by
      have h1 := (ha 0)
      simp only [Prod.mk.injEq] at h1
      rw [h1.1, fold_size]
      have := ((hT 0 (Nat.zero_le _)).ok β (Agr.refl _ _)).size
      exact this
    refine hop i hin Q _ a w _ (keep (o.looksAt ops) (T i)) o ho ((fold_length recs _ n b0).trans hm) ⟨fun β' hβ => ⟨hsize, hdf, fun d x hd => ?_⟩⟩ (fun d hd => by rw [lk_keep]; simp [hd]) hwd ?_ (fun w' hwd' => ?_)
    · rw [lk_keep] at hd
      split at hd
      · rename_i hmem
        have := ((hT i (Nat.le_of_lt hin)).ok β' hβ).get d x hd
        have h2 := hlooks d (by simpa using hmem)
        simp only [Prod.mk.injEq] at h2
        rw [h2.2, this]
      · cases hd
    · unfold seen
      split
      · trivial
      · rename_i b j off len hfp
        intro p h1 h2
        exact fold_see (uB recs) (fun bs : List Res => (bs[j]?).map (look p)) (fun k s s' e => obs_bx recs j p k s s' e) _ n i b0 (Nat.le_of_lt hin) (hconfM j p ⟨b, off, len, hfp, h1, h2⟩)
    · have hput : a.put o.dst (conc β (recs.getD i rec0).x) = uT β ops recs i a := by unfold uT; rw [ho]; rfl
      refine ⟨⟨?_, fun d => ?_⟩, ?_, fun l o' ho' hl e he hb => ?_⟩
      · rw [hput]
        unfold uT Act.put
        cases (ops[i]?).bind (·.dst) <;> simpa using hdf
      · rw [hput]
        have h1 := obs_act β ops recs d i a _ (ha d)
        rw [h1]
        symm
        refine fold_ins (uT β ops recs) (fun a : Act => (a.tmps.size, a.tmps.getD d undef)) (fun k s s' e => obs_act β ops recs d k s s' e) _ n i a0 hin hDi (fun hch k hk hk' hD => ?_)
        have hdst := act_changed hch
        rw [ho] at hdst
        have := hconfT d (.inr (by simpa using hdst)) k hk hk'
        rw [hD] at this
        exact of_decide_eq_true this.symm
      · have e : stB (foldD (uB recs) D n b0) (recs.getD i rec0).st = foldD (uB recs) (insD D i) n b0 := by
          refine bs_ext ?_ (fun j p => ?_)
          · rw [stB_length, fold_length, fold_length]
          · symm
            refine fold_ins (uB recs) (fun bs : List Res => (bs[j]?).map (look p)) (fun k s s' e => obs_bx recs j p k s s' e) _ n i b0 hin hDi (fun hch k hk hk' hD => ?_)
            obtain ⟨off, ys, hs, h1, h2⟩ := bx_changed hch
            have := hconfM j p ⟨true, off, ys.length, hst i j off ys hs, h1, h2⟩ k hk hk'
            rw [hD] at this
            exact of_decide_eq_true this.symm
        rw [← e]
        exact hwd'
      · simp only [insD, Bool.or_eq_true, decide_eq_true_eq] at hl ⊢
        rcases hl with hl | rfl
        · exact .inl (hcl l o' ho' hl e he hb)
        · exact .inl (hpre o' ho' e he hb)
  · rintro listed a w hsz ⟨⟨hdf, ha⟩, hwd, hcl⟩ hr
    have hall : ∀ k, k < n → listed.getD k false = true := fun k => by
      induction k using Nat.strongRecOn with
      | _ k ih =>
        intro hk
        cases hl : listed.getD k false with
        | true => rfl
        | false =>
          exfalso
          obtain ⟨o, ho⟩ : ∃ o, ops[k]? = some o := ⟨ops[k]'hk, by simp [hk]⟩
          have hks : k < listed.size := by rw [hsz]; exact hk
          have : k ∈ Region.ready .any ops listed := by
            refine mem_ready.2 ⟨?_, o, ho, fun e he hb => ?_⟩
            · simp [hks] at hl ⊢; exact hl
            · have h1 := List.all_eq_true.1 hah k (List.mem_range.2 hk)
              rw [ho] at h1
              have h2 := Array.all_eq_true'.1 h1 e he
              simp only [hb, Bool.not_true, Bool.false_or, decide_eq_true_eq] at h2
              exact ih e.on h2 (by omega)
          rw [hr] at this
          cases this
    have e1 := fold_all (uT β ops recs) (fun k => listed.getD k false) n a0 hall
    have e2 := fold_all (uB recs) (fun k => listed.getD k false) n b0 hall
    rw [e1] at ha
    rw [e2] at hwd
    refine hQ a w ⟨fun β' hβ => ⟨?_, hdf, fun d x hd => ?_⟩⟩ hwd
    · have h1 := ha 0
      simp only [Prod.mk.injEq] at h1
      rw [h1.1, fold_size]
      exact ((hT 0 (Nat.zero_le _)).ok β (Agr.refl _ _)).size
    · have h1 := ha d
      simp only [Prod.mk.injEq] at h1
      rw [h1.2]
      exact ((hT n (Nat.le_refl _)).ok β' hβ).get d x hd
  · refine ⟨⟨?_, fun d => ?_⟩, ?_, fun i o _ h => ?_⟩
    · exact ((hT 0 (Nat.zero_le _)).ok β (Agr.refl _ _)).defers
    · have : ∀ (m : Nat), foldD (uT β ops recs) (fun k => (Array.replicate ops.size false).getD k false) m a0 = a0 := fun m => by
        induction m with
        | zero => rfl
        | succ m ih => simp only [foldD]; rw [if_neg (by show ¬ ((Array.replicate ops.size false).getD m false = true); rw [repl_false]; simp), ih]
      rw [this]
    · have : ∀ (m : Nat), foldD (uB recs) (fun k => (Array.replicate ops.size false).getD k false) m b0 = b0 := fun m => by
        induction m with
        | zero => rfl
        | succ m ih => simp only [foldD]; rw [if_neg (by show ¬ ((Array.replicate ops.size false).getD m false = true); rw [repl_false]; simp), ih]
      rw [this]
      exact hw.drew
    · simp only [repl_false] at h; cases h
end
end Vc
