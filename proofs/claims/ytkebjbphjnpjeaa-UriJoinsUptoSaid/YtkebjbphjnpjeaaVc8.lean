/- A calculus of conditions: one walk of the text's order serves every order. -/
import Derived.Test.YtkebjbphjnpjeaaVc6
set_option linter.all false
namespace Vc
open Go Go.RowKit Wf
section
variable {V : Cx} {F : Fx V} {β : Nat → Bt} {fp : Nat → Nat → Prop}
theorem pv_congr {Γ : TypeId → Option TI} {t t' : List (Nat × SV)} {op : Op} (h : ∀ x ∈ op.operands, ev t x = ev t' x) : pv Γ t op = pv Γ t' op := by
  have opt : ∀ o : Option Operand, (∀ x, o = some x → ev t x = ev t' x) → optE t o = optE t' o := fun o ho => by
    cases o with
    | none => rfl
    | some x => simp [optE, ho x rfl]
  have lst : ∀ l : List Operand, (∀ x ∈ l, ev t x = ev t' x) → l.mapM (ev t) = l.mapM (ev t') := fun l => by
    induction l with
    | nil => intro _; rfl
    | cons x r ih => intro hl; simp only [List.mapM_cons]; rw [hl x (by simp), ih (fun y hy => hl y (by simp [hy]))]
  cases op <;> simp only [pv]
  case move x => simp only [oMove]; rw [h x (by simp [Op.operands])]
  case assign x => simp only [oMove]; rw [h x (by simp [Op.operands])]
  case pick c a b => simp only [oPick]; rw [h c (by simp [Op.operands]), h a (by simp [Op.operands]), h b (by simp [Op.operands])]
  case fieldAddr S x f => simp only [oFieldAddr]; rw [h x (by simp [Op.operands])]
  case field S x f => simp only [oField]; rw [h x (by simp [Op.operands])]
  case binOp op T x y yt => simp only [oBin]; rw [h x (by simp [Op.operands]), h y (by simp [Op.operands])]
  case unOp op T x => simp only [oUn]; rw [h x (by simp [Op.operands])]
  case convert S D x => simp only [oConv]; rw [h x (by simp [Op.operands])]
  case slice T x lo hi mx =>
    cases mx with
    | some _ => rfl
    | none =>
      simp only [oSlice]
      rw [h x (by simp [Op.operands]), opt lo (fun y hy => h y (by simp [Op.operands, hy])), opt hi (fun y hy => h y (by simp [Op.operands, hy]))]
  case index T x i => simp only [oIndex]; rw [h x (by simp [Op.operands]), h i (by simp [Op.operands])]
  case build T ps =>
    have hp : ∀ l : List (Nat × Operand), (∀ x ∈ l, ev t x.2 = ev t' x.2) → evParts t l = evParts t' l := fun l => by
      induction l with
      | nil => intro _; rfl
      | cons x r ih => intro hl; obtain ⟨i, o⟩ := x; simp only [evParts]; rw [hl (i, o) (by simp), ih (fun y hy => hl y (by simp [hy]))]
    simp only [oBuildA]
    rw [hp ps.toList (fun x hx => h x.2 (by simp only [Op.operands]; rw [List.mem_toArray]; exact List.mem_map_of_mem hx))]
  case indexAddr T x i => simp only [oIdxA]; rw [h x (by simp [Op.operands]), h i (by simp [Op.operands])]
  case extract x i => simp only [oExtract]; rw [h x (by simp [Op.operands])]
  case makeFunc f first caps =>
    simp only [oFunc]
    unfold evs
    rw [lst caps.toList (fun x hx => h x (by simp only [Op.operands]; exact Array.mem_append.2 (.inr (Array.mem_toList_iff.1 hx))))]
  case call c =>
    obtain ⟨callee, args, ts⟩ := c
    cases callee <;> (try simp only)
    rename_i b
    cases b <;> (try simp only)
    simp only [oLen]
    split
    · rename_i x hx
      rw [h x (by
        simp only [Op.operands, Call.operands]
        refine Array.mem_append.2 (.inr (Array.mem_toList_iff.1 ?_))
        rw [hx]; simp)]
    · rfl
/-- One cell of a block, with the block's make. -/
def shape : Res → Res
  | .cells _ T m => .cells [] T m
  | .own _ e s n m => .own [] e s n m
  | r => r
def cellsR : Res → List SV
  | .cells c _ _ => c
  | .own c _ _ _ _ => c
  | _ => []
theorem setR_eq (r : Res) : setR (cellsR r) (shape r) = r := by cases r <;> rfl
theorem shape_setR (c : List SV) (r : Res) : shape (setR c r) = shape r := by cases r <;> rfl
theorem getB_shape {bs : List Res} {i : Nat} {c : List SV} {T : TypeId} {m : Bool} (h : getB bs i = some (c, T, m)) : ∃ r, bs[i]? = some r ∧ cellsR r = c ∧ ∀ c' r', shape r' = shape r → cellsR r' = c' → (∀ bs' : List Res, bs'[i]? = some r' → getB bs' i = some (c', T, m)) := by
  obtain ⟨r, hr, -, hc⟩ := getB_some h
  refine ⟨r, hr, by rcases hc with rfl | ⟨s, n, rfl⟩ <;> rfl, fun c' r' hs hcr bs' hb => ?_⟩
  unfold getB
  rw [hb]
  rcases hc with rfl | ⟨s, n, rfl⟩ <;> cases r' <;> simp [shape] at hs <;> simp [cellsR] at hcr <;> simp [hs, hcr]
def look (p : Nat) (r : Res) : Res × Nat × Option SV := (shape r, (cellsR r).length, (cellsR r)[p]?)
def seen : Option (Bool × Nat × Nat × Nat) → List Res → List Res → Prop
  | none, _, _ => True
  | some (_, j, off, n), bi, bs => ∀ p, off ≤ p → p < off + n → (bs[j]?).map (look p) = (bi[j]?).map (look p)
theorem seen_get {b : Bool} {j off n : Nat} {bi bs : List Res} (h : seen (some (b, j, off, n)) bi bs) (hn : 0 < n) {c : List SV} {T : TypeId} {m : Bool} (hg : getB bi j = some (c, T, m)) :
    ∃ c', getB bs j = some (c', T, m) ∧ c'.length = c.length ∧ ∀ p, off ≤ p → p < off + n → c'[p]? = c[p]? := by
  obtain ⟨r, hr, rfl, hall⟩ := getB_shape hg
  have key : ∀ p, off ≤ p → p < off + n → ∃ r', bs[j]? = some r' ∧ shape r' = shape r ∧ (cellsR r').length = (cellsR r).length ∧ (cellsR r')[p]? = (cellsR r)[p]? := fun p h1 h2 => by
    have := h p h1 h2
    rw [hr] at this
    cases hbs : bs[j]? with
    | none => rw [hbs] at this; simp at this
    | some r' =>
      rw [hbs] at this
      simp only [Option.map_some, look, Option.some.injEq, Prod.mk.injEq] at this
      exact ⟨r', rfl, this.1, this.2.1, this.2.2⟩
  obtain ⟨r', hr', hs, hl, -⟩ := key off (Nat.le_refl _) (by omega)
  refine ⟨cellsR r', hall _ r' hs rfl bs hr', hl, fun p h1 h2 => ?_⟩
  obtain ⟨r2, hr2, -, -, hp⟩ := key p h1 h2
  rw [hr'] at hr2
  cases hr2
  exact hp
theorem partS_congr {agg : Bool} {off n : Nat} {c c' : List SV} (hn : 0 < n) (h : ∀ p, off ≤ p → p < off + n → c'[p]? = c[p]?) : partS agg off n c' = partS agg off n c := by
  unfold partS
  cases agg
  · simp [h off (Nat.le_refl _) (by omega)]
  · simp only [if_true]
    congr 2
    apply List.ext_getElem?
    intro q
    simp only [List.getElem?_take, List.getElem?_drop]
    split
    · exact h (off + q) (by omega) (by omega)
    · rfl
theorem mapM_congr {t t' : List (Nat × SV)} : ∀ (l : List Operand), (∀ x ∈ l, ev t x = ev t' x) → evs t l = evs t' l
  | [], _ => rfl
  | x :: r, h => by
    have := mapM_congr r (fun y hy => h y (by simp [hy]))
    unfold evs at this ⊢
    simp only [List.mapM_cons]
    rw [h x (by simp), this]
theorem evParts_congr {t t' : List (Nat × SV)} : ∀ (l : List (Nat × Operand)), (∀ x ∈ l.map (·.2), ev t x = ev t' x) → evParts t l = evParts t' l
  | [], _ => rfl
  | (i, x) :: r, h => by
    simp only [evParts]
    rw [h x (by simp), evParts_congr r (fun y hy => h y (by simp only [List.map_cons, List.mem_cons]; exact .inr hy))]
/-- What a step comes to depends on what it looks at. -/
theorem stepD_congr {op : Op} {t t' : List (Nat × SV)} {b b' : List Res} (h : ∀ x ∈ op.operands, ev t' x = ev t x) {c : Prop} {r : Rec} (hs : stepD V op ⟨t, b⟩ = .val c r) (hc : c) (hseen : seen r.fp b b') :
    ∃ c', stepD V op ⟨t', b'⟩ = .val c' r ∧ c' := by
  unfold stepD at hs ⊢
  rw [pv_congr h]
  cases hp : pv V.Γ t op with
  | some q => rw [hp] at hs; exact ⟨c, hs, hc⟩
  | none =>
    rw [hp] at hs
    simp only [goD] at hs ⊢
    cases op <;> simp only [stepDM, reduceCtorEq] at hs ⊢
    case load T x =>
      unfold dLoad at hs ⊢
      rw [h x (by simp [Op.operands])]
      simp only at hs ⊢
      split at hs
      · rename_i i off he
        split at hs
        · rename_i cc T' m hg
          split at hs
          · rename_i ti hT
            split at hs
            · rename_i y hy
              simp only [StepD.val.injEq] at hs
              obtain ⟨rfl, rfl⟩ := hs
              obtain ⟨c', hg', hl, hpt⟩ := seen_get hseen hc.2 hg
              simp only [he, hg', partS_congr hc.2 hpt, hy]
              exact ⟨_, rfl, by rw [hl]; exact hc⟩
            · cases hs
          · cases hs
        · cases hs
      · cases hs
    case store T x y =>
      unfold dStore at hs ⊢
      rw [h x (by simp [Op.operands]), h y (by simp [Op.operands])]
      simp only at hs ⊢
      split at hs
      · rename_i i off he
        split at hs
        · rename_i y' hy
          split at hs
          · rename_i cc T' m hg
            split at hs
            · rename_i s hsz
              simp only [StepD.val.injEq] at hs
              obtain ⟨rfl, rfl⟩ := hs
              obtain ⟨c', hg', hl, hpt⟩ := seen_get hseen hc.2.2.2.2 hg
              simp only [he, hy, hg', hsz]
              exact ⟨_, rfl, by rw [hl]; exact hc⟩
            · cases hs
          · cases hs
        · cases hs
      · cases hs
    case build T ps =>
      unfold dBuild at hs ⊢
      rw [evParts_congr ps.toList (fun x hx => h x (by simp only [Op.operands]; simpa using hx))]
      exact ⟨c, hs, hc⟩
    case nilCheck x =>
      unfold dNil at hs ⊢
      rw [h x (by simp [Op.operands])]
      exact ⟨c, hs, hc⟩
    case call cl =>
      obtain ⟨callee, args, ts⟩ := cl
      cases callee <;> simp only [reduceCtorEq] at hs
      unfold dCall at hs
      (repeat' split at hs) <;> cases hs
theorem stepD_call_congr {op : Op} {t t' : List (Nat × SV)} {b b' : List Res} (h : ∀ x ∈ op.operands, ev t' x = ev t x) {g : FuncId} {args : List SV} (hs : stepD V op ⟨t, b⟩ = .call g args) : stepD V op ⟨t', b'⟩ = .call g args := by
  unfold stepD at hs ⊢
  rw [pv_congr h]
  cases hp : pv V.Γ t op with
  | some q => rw [hp] at hs; cases hs
  | none =>
    rw [hp] at hs
    simp only [goD] at hs ⊢
    cases op <;> simp only [stepDM, reduceCtorEq] at hs ⊢
    case load T x => unfold dLoad at hs; (repeat' split at hs) <;> cases hs
    case store T x y => unfold dStore at hs; (repeat' split at hs) <;> cases hs
    case build T ps => unfold dBuild valD at hs; (repeat' split at hs) <;> cases hs
    case nilCheck x => unfold dNil valD at hs; (repeat' split at hs) <;> cases hs
    case call cl =>
      obtain ⟨callee, as, ts⟩ := cl
      cases callee <;> simp only [reduceCtorEq] at hs ⊢
      rename_i fo
      unfold dCall at hs ⊢
      rw [h fo (by simp [Op.operands, Call.operands]), mapM_congr as.toList (fun x hx => h x (by
        simp only [Op.operands, Call.operands]
        exact Array.mem_append.2 (.inr (Array.mem_toList_iff.1 hx))))]
      exact hs
theorem setL_splice {c ys : List SV} {off : Nat} (h : off + ys.length ≤ c.length) : setL c off ys = splice c off ys := by
  apply List.ext_getElem?
  intro p
  simp only [setL, splice, List.getElem?_mapIdx]
  by_cases h1 : p < off
  · rw [List.getElem?_append_left (by simp; omega), List.getElem?_append_left (by simp; omega), List.getElem?_take, if_pos h1]
    cases c[p]? <;> simp; omega
  · by_cases h2 : p < off + ys.length
    · rw [List.getElem?_append_left (by simp; omega), List.getElem?_append_right (by simp; omega)]
      have hp : p < c.length := by omega
      rw [List.getElem?_eq_getElem hp]
      simp only [Option.map_some, if_pos (show off ≤ p ∧ p < off + ys.length by omega), List.length_take, Nat.min_eq_left (show off ≤ c.length by omega)]
      rw [List.getD_eq_getElem?_getD, List.getElem?_eq_getElem (show p - off < ys.length by omega)]
      rfl
    · rw [List.getElem?_append_right (by simp; omega), List.getElem?_drop]
      have e : off + ys.length + (p - (List.take off c ++ ys).length) = p := by simp; omega
      rw [e]
      cases c[p]? <;> simp; omega
/-- A step goes through. -/
theorem stepD_ok {m : Nat} {t : List (Nat × SV)} {bs : List Res} {a : Act} {w : World} {o : Oper} {c : Prop} {r : Rec} (hs : stepD V o.op ⟨t, bs⟩ = .val c r) (hc : c) (hm : bs.length = m) (hf : Fm F β m t a) (hw : Wd F β fp bs w) {K : Act → World → Prop} {Q : Exit → Act → World → Prop}
    (hK : ∀ w', Wd F β fp (stB bs r.st) w' → K (a.put o.dst (conc β r.x)) w') : o.wp V.P a w K Q := by
  subst hm
  unfold stepD at hs
  cases hp : pv V.Γ t o.op with
  | some q =>
    obtain ⟨c', x⟩ := q
    rw [hp] at hs
    simp only [goD, valD, StepD.val.injEq] at hs
    obtain ⟨rfl, rfl⟩ := hs
    exact wp_of_value (pv_ok V.gok (hf.ok β (Agr.refl _ _)) hp hc w) (hK w hw)
  | none =>
    rw [hp] at hs
    clear hp
    simp only [goD] at hs
    obtain ⟨dst, op, ty, pos, after, guard⟩ := o
    simp only at hs hK ⊢
    cases op <;> simp only [stepDM, reduceCtorEq] at hs
    case load T x =>
      unfold dLoad at hs
      split at hs
      · rename_i i off hx
        split at hs
        · rename_i cc T' m hg
          split at hs
          · rename_i ti hT
            split at hs
            · rename_i y hy
              simp only [StepD.val.injEq] at hs
              obtain ⟨rfl, rfl⟩ := hs
              have := run_load (V := V) T ti hT hy hc.1 (hw.lies hg (Agr.refl _ β))
              have hx' := hf.ev hx (Agr.refl _ β)
              simp only [conc] at hx'
              rw [← hx'] at this
              exact wp_of_value (o := { dst := dst, op := .load T x, type := ty, pos := pos, after := after, guard := guard }) (run_val this) (hK w hw)
            · cases hs
          · cases hs
        · cases hs
      · cases hs
    case store T x y =>
      unfold dStore at hs
      split at hs
      · rename_i i off hx
        split at hs
        · rename_i y' hy
          split at hs
          · rename_i cc T' m hg
            split at hs
            · rename_i s hsz
              simp only [StepD.val.injEq] at hs
              obtain ⟨rfl, rfl⟩ := hs
              obtain ⟨hm, hone, hlen, hl, -⟩ := hc
              subst hm
              have hx' := hf.ev hx (Agr.refl _ β)
              simp only [conc] at hx'
              have hy' := hf.ev hy (Agr.refl _ β)
              obtain ⟨w', hrun, hw'⟩ := run_storeAt hw T s hsz hg (y := y') (fun β' hβ => by rw [← hf.ev hy hβ, hy']) hone hlen hl
              rw [← hx', ← hy'] at hrun
              have hrun' : (execOp a.eval { dst := dst, op := .store T x y, type := ty, pos := pos, after := after, guard := guard }).run V.P w = Result.ok .skip w' := by
                show Sem.run V.P (do Instr.storeAt T (a.eval x) (a.eval y); pure Next.skip) w = _
                rw [Sem.run_bind, hrun]
                rfl
              have e : stB bs (some (i, off, cells y')) = setB bs i (splice cc off (cells y')) := by
                simp only [stB, hg]
                rw [setL_splice (by omega)]
              refine wp_of_skip hrun' (hK _ ?_)
              simp only
              rw [e]
              exact hw'
            · cases hs
          · cases hs
        · cases hs
      · cases hs
    case build T ps =>
      unfold dBuild at hs
      split at hs
      · rename_i ti hT
        split at hs
        · rename_i fs hk
          split at hs
          · rename_i l hl
            split at hs
            · rename_i cc hcc
              simp only [valD, StepD.val.injEq] at hs
              obtain ⟨rfl, rfl⟩ := hs
              exact wp_of_value (run_build hf hT hk hl hcc (Agr.refl _ β) dst ty pos after guard) (hK w hw)
            · cases hs
          · cases hs
        · cases hs
      · cases hs
    case nilCheck x =>
      unfold dNil at hs
      split at hs
      · rename_i i off hx
        simp only [valD, StepD.val.injEq] at hs
        obtain ⟨rfl, rfl⟩ := hs
        refine wp_of_value (v := a.eval x) (w' := w) ?_ (by rw [hf.ev hx (Agr.refl _ β)]; exact hK w hw)
        simp only [execOp]
        rw [hf.ev hx (Agr.refl _ β)]
        rfl
      · rename_i f l hx
        simp only [valD, StepD.val.injEq] at hs
        obtain ⟨rfl, rfl⟩ := hs
        refine wp_of_value (v := a.eval x) (w' := w) ?_ (by rw [hf.ev hx (Agr.refl _ β)]; exact hK w hw)
        simp only [execOp]
        rw [hf.ev hx (Agr.refl _ β)]
        simp only [conc]
        cases f <;> simp [isFunc] at hc
        rfl
      · cases hs
    case call cl =>
      obtain ⟨callee, args, ts⟩ := cl
      cases callee <;> simp only [reduceCtorEq] at hs
      unfold dCall at hs
      (repeat' split at hs) <;> cases hs
theorem stepD_call_ok {m : Nat} {t : List (Nat × SV)} {bs : List Res} {a : Act} {w : World} {o : Oper} {g : FuncId} {args : List SV} {x : SV} (hs : stepD V o.op ⟨t, bs⟩ = .call g args) (hpc : PC V g args x) (hm : bs.length = m) (hf : Fm F β m t a) (hw : Wd F β fp bs w) {K : Act → World → Prop} {Q : Exit → Act → World → Prop}
    (hK : ∀ w', Wd F β fp bs w' → K (a.put o.dst (conc β x)) w') : o.wp V.P a w K Q := by
  subst hm
  unfold stepD at hs
  cases hp : pv V.Γ t o.op with
  | some q => rw [hp] at hs; cases hs
  | none =>
    rw [hp] at hs
    clear hp
    simp only [goD] at hs
    obtain ⟨dst, op, ty, pos, after, guard⟩ := o
    simp only at hs hK ⊢
    cases op <;> simp only [stepDM, reduceCtorEq] at hs
    case load T x => unfold dLoad at hs; (repeat' split at hs) <;> cases hs
    case store T x y => unfold dStore at hs; (repeat' split at hs) <;> cases hs
    case build T ps => unfold dBuild valD at hs; (repeat' split at hs) <;> cases hs
    case nilCheck x => unfold dNil valD at hs; (repeat' split at hs) <;> cases hs
    case call cl =>
      obtain ⟨callee, as, ts⟩ := cl
      cases callee <;> simp only [reduceCtorEq] at hs
      rename_i fo
      unfold dCall at hs
      split at hs
      · rename_i f caps hfo
        split at hs
        · rename_i l hl
          cases hs
          have hargs : as.map a.eval = (concL β l).toArray := by
            rw [← evs_ok hf hl (Agr.refl _ β)]
            exact Array.ext' (by simp)
          have hexec : (execOp a.eval { dst := dst, op := .call ⟨.value fo, as, ts⟩, type := ty, pos := pos, after := after, guard := guard }).run V.P w = Result.ok (.enter g (concL β (l ++ caps)).toArray) w := by
            have h1 := hf.ev hfo (Agr.refl _ β)
            show Sem.run V.P (do let d ← resolve a.eval ⟨.value fo, as, ts⟩ ty; invoke d.target d.args) w = _
            simp only [resolve, h1, hargs, conc, Deferred.ofValue, Sem.run_bind, Sem.run_pure, Result.andThen_ok, invoke]
            simp [concL_map]
            exact hpc.enters _ _
          unfold Oper.wp
          rw [hexec]
          show Calls V.P g _ w _
          rw [concL_flat _ hpc.fa β bt0]
          refine (hpc.calls w hw.env).mono ?_
          rintro e w' ⟨rfl, hb⟩
          have := hK w' (hw.below hb)
          rw [conc_flat x hpc.fr β bt0] at this
          exact this
        · cases hs
      · cases hs
end
end Vc
