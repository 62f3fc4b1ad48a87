/- A calculus of conditions: it is sound. -/
import Derived.Test.YtkebjbphjnpjeaaVc2
set_option linter.all false
namespace Vc
open Go Go.RowKit Wf
theorem one_oneCell {x : SV} (h : one x = true) (β : Nat → Bt) : (conc β x).oneCell' = true := by
  cases x
  case o i n => simp only [conc, oV]; split <;> rfl
  all_goals simp [one, conc, Value.oneCell'] at h ⊢
theorem isV_of_one {x : SV} (h : (cells x).all one = true) : isV x = false := by
  cases x <;> simp [cells, one, isV] at h ⊢
theorem run_storeCells_fz {P : Program} (g o : Nat) (t : TypeId) (fz : Nat × Nat) : ∀ (vs : List Value) (i : Nat) (cur : Array Value) (w : World), w.heap[g]? = some (.cells cur t fz) → o + i + vs.length ≤ cur.size → (o + i + vs.length ≤ fz.1 ∨ fz.2 ≤ fz.1) → (∀ v ∈ vs, v.oneCell' = true) →
    (storeCells ⟨g, o, none⟩ vs i).run P w = Result.ok () (w.setRow g (cur.toList.take (o + i) ++ vs ++ cur.toList.drop (o + i + vs.length)).toArray)
  | [], i, cur, w, hg, _, _, _ => by
    simp only [storeCells, List.append_nil, List.length_nil, Nat.add_zero, List.take_append_drop, Array.toArray_toList]
    rw [setRow_self w g cur t fz hg]
    rfl
  | v :: rest, i, cur, w, hg, hl, hz, h1 => by
    simp only [List.length_cons] at hl hz
    have hi : o + i < cur.size := by omega
    have hadd : (⟨g, o, none⟩ : Addr).add i = ⟨g, o + i, none⟩ := by unfold Addr.add; split <;> simp_all
    have hcell : w.cell? ⟨g, o + i, none⟩ = some cur[o + i] := by simp [World.cell?, hg, hi]
    have hfro : w.frozen? ⟨g, o + i, none⟩ = false := by simp [World.frozen?, hg]; omega
    have hst : (store ((⟨g, o, none⟩ : Addr).add i) v).run P w = Result.ok () (w.setRow g (cur.setIfInBounds (o + i) v)) := by
      rw [hadd, run_store P w _ v _ (h1 v (by simp)), hcell]
      simp [hfro, setCell_eq_setRow w g (o + i) cur t fz v hg]
    have ih := run_storeCells_fz (P := P) g o t fz rest (i + 1) (cur.setIfInBounds (o + i) v) (w.setRow g (cur.setIfInBounds (o + i) v)) (setRow_heap w g cur _ t _ hg) (by simp; omega) (by omega) (fun x hx => h1 x (by simp [hx]))
    simp only [storeCells, Sem.run_bind, hst, Result.andThen_ok, ih, setRow_setRow]
    congr 3
    have e := list_seg_step cur.toList (o + i) v rest (by simp; omega)
    simpa [Array.toList_setIfInBounds, Nat.add_assoc] using e
section
variable {V : Cx} {F : Fx V} {β : Nat → Bt} {fp : Nat → Nat → Prop} {bs : List Res} {w : World} {t : List (Nat × SV)} {a : Act}
theorem Fm.ev {m : Nat} (h : Fm F β m t a) {o : Operand} {x : SV} (e : Vc.ev t o = some x) {β' : Nat → Bt} (hβ : Agr m β β') : a.eval o = conc β' x := (h.ok β' hβ).ev e
def upd (β : Nat → Bt) (m : Nat) (b : Bt) : Nat → Bt := fun i => if i = m then b else β i
theorem upd_agr (β : Nat → Bt) (m : Nat) (b : Bt) : Agr m β (upd β m b) := fun i hi => by unfold upd; rw [if_neg (by omega)]
theorem upd_at (β : Nat → Bt) (m : Nat) (b : Bt) : upd β m b m = b := if_pos rfl
theorem Agr.of_upd {m : Nat} {b : Bt} {β β' : Nat → Bt} (h : Agr (m + 1) (upd β m b) β') : Agr m β β' := fun i hi => (upd_agr β m b i hi).trans (h i (by omega))
def updF (fp : Nat → Nat → Prop) (m : Nat) (f : Nat → Prop) : Nat → Nat → Prop := fun i k => if i = m then f k else fp i k
/-- A new thing, out of new blocks alone. -/
theorem Wd.more (h : Wd F β fp bs w) {w' : World} (hb : Below w.heap.size w w') (r : Res) (b : Bt) (f : Nat → Prop)
    (hr : ∀ β', Agr (bs.length + 1) (upd β bs.length b) β' → Holds β' b f w' r) (hf : ∀ k, f k → w.heap.size ≤ k ∧ k < w'.heap.size) :
    Wd F (upd β bs.length b) (updF fp bs.length f) (bs ++ [r]) w' := by
  have h' := h.below hb
  have old : ∀ {i r'}, (bs ++ [r])[i]? = some r' → (i < bs.length ∧ bs[i]? = some r') ∨ (i = bs.length ∧ r' = r) := fun {i r'} hi => by
    rcases Nat.lt_or_ge i bs.length with hlt | hge
    · rw [List.getElem?_append_left hlt] at hi; exact .inl ⟨hlt, hi⟩
    · have hi' : i = bs.length := by
        have := (List.getElem?_eq_some_iff.1 hi).1
        rw [List.length_append, List.length_singleton] at this
        omega
      subst hi'
      rw [List.getElem?_append_right (Nat.le_refl _)] at hi
      simp at hi
      exact .inr ⟨rfl, hi.symm⟩
  have fo : ∀ {i}, i < bs.length → updF fp bs.length f i = fp i := fun {i} hi => by funext k; simp [updF, show i ≠ bs.length by omega]
  have fn : updF fp bs.length f bs.length = f := by funext k; simp [updF]
  refine ⟨h'.fr, fun β' hβ => ?_, fun i r' hi hm k hk => ?_, ?_⟩
  · rw [List.length_append, List.length_singleton] at hβ
    have hb' := h'.bx β' hβ.of_upd
    have hlast : β' bs.length = b := by rw [← hβ bs.length (by omega), upd_at]
    have hlt0 := (h.bx β' hβ.of_upd).lt
    refine ⟨fun i r' hi => ?_, fun i r' hi k hk => ?_, fun i j r1 r2 hi hj hne hm k hk hk' => ?_⟩
    · rcases old hi with ⟨hlt, hi⟩ | ⟨rfl, rfl⟩
      · rw [fo hlt]; exact hb'.holds i r' hi
      · rw [fn, hlast]; exact hr β' hβ
    · rcases old hi with ⟨hlt, hi⟩ | ⟨rfl, rfl⟩
      · rw [fo hlt] at hk; exact hb'.lt i r' hi k hk
      · rw [fn] at hk; exact (hf k hk).2
    · rcases old hi with ⟨hlt, hi2⟩ | ⟨ei, e1⟩
      · rcases old hj with ⟨hlt', hj2⟩ | ⟨ej, e2⟩
        · rw [fo hlt] at hk; rw [fo hlt'] at hk'; exact hb'.sep i j r1 r2 hi2 hj2 hne hm k hk hk'
        · rw [ej] at hk'
          rw [fo hlt] at hk; rw [fn] at hk'
          have := hlt0 i r1 hi2 k hk
          have := (hf k hk').1
          omega
      · rcases old hj with ⟨hlt', hj2⟩ | ⟨ej, e2⟩
        · rw [ei] at hk
          rw [fn] at hk; rw [fo hlt'] at hk'
          have := hlt0 j r2 hj2 k hk'
          have := (hf k hk).1
          omega
        · exact hne (ei.trans ej.symm)
  · rcases old hi with ⟨hlt, hi⟩ | ⟨rfl, rfl⟩
    · rw [fo hlt] at hk; exact h'.mine i r' hi hm k hk
    · rw [fn] at hk; exact .inl (Nat.le_trans h.fr.size (hf k hk).1)
  · have hl := h.ini.len
    exact ⟨fun i hi => (h.ini.agr i hi).trans (upd_agr β _ _ i (by omega)), by rw [List.length_append]; omega⟩
theorem Wd.alloc (h : Wd F β fp bs w) (c : List SV) (T : TypeId) (arr : Array Value) (mine : Bool)
    (harr : ∀ β', Agr (bs.length + 1) (upd β bs.length ⟨w.heap.size, 0, 0⟩) β' → arr = (c.map (conc β')).toArray) :
    Wd F (upd β bs.length ⟨w.heap.size, 0, 0⟩) (updF fp bs.length (· = w.heap.size)) (bs ++ [.cells c T mine]) (w.alloc (.cells arr T)) := by
  refine h.more ((Below.refl _ _).alloc (Nat.le_refl _) _) _ ⟨w.heap.size, 0, 0⟩ _ (fun β' hβ => ⟨rfl, ⟨[], (0, 0), ⟨?_, .inr (Nat.le_refl _)⟩, rfl⟩, fun k => Iff.rfl⟩) (fun k hk => ?_)
  · show (w.alloc (.cells arr T)).heap[w.heap.size]? = _
    rw [heap_new, harr β' hβ, List.append_nil]
  · subst hk
    exact ⟨Nat.le_refl _, by rw [size_alloc]; omega⟩
/-- One thing gives way to another, which takes its blocks or new ones. -/
theorem Wd.swap (h : Wd F β fp bs w) {i : Nat} {r0 : Res} (hi : bs[i]? = some r0) (hm : r0.mine = true) {w' : World} (hfr : FrW (fp i) w w') (r : Res) (b : Bt) (f : Nat → Prop)
    (hr : ∀ β', Agr (bs.length + 1) (upd β bs.length b) β' → Holds β' b f w' r) (hf : ∀ k, f k → (fp i k ∨ w.heap.size ≤ k) ∧ k < w'.heap.size) :
    Wd F (upd β bs.length b) (fun j k => if j = bs.length then f k else j ≠ i ∧ fp j k) (bs.set i .gone ++ [r]) w' := by
  have hilt : i < bs.length := (List.getElem?_eq_some_iff.1 hi).1
  have old : ∀ {j : Nat} {r' : Res}, (bs.set i .gone ++ [r])[j]? = some r' → (j < bs.length ∧ j ≠ i ∧ bs[j]? = some r') ∨ (j = i ∧ r' = .gone) ∨ (j = bs.length ∧ r' = r) := fun {j r'} hj => by
    rcases Nat.lt_or_ge j bs.length with hlt | hge
    · rw [List.getElem?_append_left (by simpa using hlt)] at hj
      by_cases hji : j = i
      · subst hji
        rw [List.getElem?_set_self hilt] at hj
        exact .inr (.inl ⟨rfl, by simpa using hj.symm⟩)
      · rw [List.getElem?_set_ne (fun e => hji e.symm)] at hj
        exact .inl ⟨hlt, hji, hj⟩
    · have hj' : j = bs.length := by
        have := (List.getElem?_eq_some_iff.1 hj).1
        rw [List.length_append, List.length_singleton, List.length_set] at this
        omega
      subst hj'
      rw [List.getElem?_append_right (by simp)] at hj
      simp at hj
      exact .inr (.inr ⟨rfl, hj.symm⟩)
  have hb0 := h.bx β (Agr.refl _ _)
  have hlt0 := hb0.lt
  have hother : ∀ j r', bs[j]? = some r' → j ≠ i → ∀ k, fp j k → w'.heap[k]? = w.heap[k]? := fun j r' hj hne k hk =>
    hfr.block k (hlt0 j r' hj k hk) (fun hk' => hb0.sep j i r' r0 hj hi hne (.inr hm) k hk hk')
  have fo : ∀ {j : Nat}, j < bs.length → j ≠ i → (fun k => if j = bs.length then f k else j ≠ i ∧ fp j k) = fp j := fun {j} hj hne => by funext k; simp [show j ≠ bs.length by omega, hne]
  refine ⟨⟨hfr.os.trans h.fr.os, hfr.tape.trans h.fr.tape, hfr.output.trans h.fr.output, Nat.le_trans h.fr.size hfr.size, fun k hk hn => ?_⟩, fun β' hβ => ?_, fun j r' hj hm' k hk => ?_, ?_⟩
  · rw [hfr.block k (Nat.lt_of_lt_of_le hk h.fr.size) (fun hk' => ?_)]
    · exact h.fr.block k hk hn
    · rcases h.mine i r0 hi hm k hk' with h1 | h1
      · omega
      · exact hn h1
  · rw [List.length_append, List.length_singleton, List.length_set] at hβ
    have hb' := h.bx β' hβ.of_upd
    have hlast : β' bs.length = b := by rw [← hβ bs.length (by omega), upd_at]
    refine ⟨fun j r' hj => ?_, fun j r' hj k hk => ?_, fun j l r1 r2 hj hl hne hmm k hk hk' => ?_⟩
    · rcases old hj with ⟨hlt, hne, hj2⟩ | ⟨ej, e2⟩ | ⟨ej, e2⟩
      · simp only [fo hlt hne]
        exact (hb'.holds j r' hj2).stays (fun k hk => hother j r' hj2 hne k hk)
      · subst ej e2
        intro k hk
        simp [show j ≠ bs.length by omega] at hk
      · subst ej e2
        simp only [if_true, hlast]
        exact hr β' hβ
    · rcases old hj with ⟨hlt, hne, hj2⟩ | ⟨ej, e2⟩ | ⟨ej, e2⟩
      · simp only [if_neg (show j ≠ bs.length by omega)] at hk
        exact Nat.lt_of_lt_of_le (hlt0 j r' hj2 k hk.2) hfr.size
      · subst ej
        simp [show j ≠ bs.length by omega] at hk
      · subst ej
        simp only [if_true] at hk
        exact (hf k hk).2
    · rcases old hj with ⟨hlt, hnj, hj2⟩ | ⟨ej, e2⟩ | ⟨ej, e2⟩
      · simp only [if_neg (show j ≠ bs.length by omega)] at hk
        rcases old hl with ⟨hlt', hnl, hl2⟩ | ⟨el, e3⟩ | ⟨el, e3⟩
        · simp only [if_neg (show l ≠ bs.length by omega)] at hk'
          exact hb0.sep j l r1 r2 hj2 hl2 hne hmm k hk.2 hk'.2
        · subst el; simp [show l ≠ bs.length by omega] at hk'
        · subst el
          simp only [if_true] at hk'
          rcases (hf k hk').1 with h1 | h1
          · exact hb0.sep j i r1 r0 hj2 hi hnj (.inr hm) k hk.2 h1
          · have := hlt0 j r1 hj2 k hk.2
            omega
      · subst ej; simp [show j ≠ bs.length by omega] at hk
      · subst ej
        simp only [if_true] at hk
        rcases old hl with ⟨hlt', hnl, hl2⟩ | ⟨el, e3⟩ | ⟨el, e3⟩
        · simp only [if_neg (show l ≠ bs.length by omega)] at hk'
          rcases (hf k hk).1 with h1 | h1
          · exact hb0.sep l i r2 r0 hl2 hi hnl (.inr hm) k hk'.2 h1
          · have := hlt0 l r2 hl2 k hk'.2
            omega
        · subst el; simp [show l ≠ bs.length by omega] at hk'
        · exact hne el.symm
  · rcases old hj with ⟨hlt, hne, hj2⟩ | ⟨ej, e2⟩ | ⟨ej, e2⟩
    · simp only [if_neg (show j ≠ bs.length by omega)] at hk
      exact h.mine j r' hj2 hm' k hk.2
    · subst e2; cases hm'
    · subst ej
      simp only [if_true] at hk
      rcases (hf k hk).1 with h1 | h1
      · exact h.mine i r0 hi hm k h1
      · exact .inl (Nat.le_trans h.fr.size h1)
  · have hl := h.ini.len
    exact ⟨fun j hj => (h.ini.agr j hj).trans (upd_agr β _ _ j (by omega)), by rw [List.length_append, List.length_set]; omega⟩
theorem getB_some {i : Nat} {c : List SV} {T : TypeId} {m : Bool} (h : getB bs i = some (c, T, m)) : ∃ r, bs[i]? = some r ∧ r.mine = m ∧ (r = .cells c T m ∨ ∃ s n, r = .own c T s n m) := by
  unfold getB at h
  split at h
  · rename_i e; cases h; exact ⟨_, e, rfl, .inl rfl⟩
  · rename_i e; cases h; exact ⟨_, e, rfl, .inr ⟨_, _, rfl⟩⟩
  · cases h
theorem getB_lt {i : Nat} {c : List SV} {T : TypeId} {m : Bool} (h : getB bs i = some (c, T, m)) : i < bs.length := by
  obtain ⟨r, hr, -⟩ := getB_some h
  exact (List.getElem?_eq_some_iff.1 hr).1
theorem Wd.lies (h : Wd F β fp bs w) {i : Nat} {c : List SV} {T : TypeId} {m : Bool} (hg : getB bs i = some (c, T, m)) {β' : Nat → Bt} (hβ : Agr bs.length β β') :
    Lies w (β' i).blk (β' i).off (c.map (conc β')) := by
  obtain ⟨r, hr, -, hc⟩ := getB_some hg
  have hh := (h.bx β' hβ).holds i r hr
  rcases hc with rfl | ⟨s, n, rfl⟩
  · obtain ⟨h0, ⟨rest, fz, hd, -⟩, -⟩ := hh
    rw [h0]; exact hd.lies
  · rcases hh with ⟨-, -, h3, -⟩ | ⟨-, -, -, -, h5, -⟩
    · subst h3; intro j v hv; simp at hv
    · exact h5
theorem lies_agr {w : World} {b off : Nat} {u v : List Value} (hl : u.length = v.length) (h1 : Lies w b off u) (h2 : Lies w b off v) : u = v := by
  apply List.ext_getElem?
  intro j
  rcases hu : u[j]? with _ | x
  · have : v[j]? = none := by rw [List.getElem?_eq_none_iff] at hu ⊢; omega
    rw [this]
  · rcases hv : v[j]? with _ | y
    · have : j < u.length := (List.getElem?_eq_some_iff.1 hu).1
      rw [List.getElem?_eq_none_iff] at hv; omega
    · have e1 := h1 j x hu
      rw [h2 j y hv] at e1
      exact e1.symm
/-- The cells read alike whatever lies behind the state's blocks. -/
theorem Wd.agr (h : Wd F β fp bs w) {i : Nat} {c : List SV} {T : TypeId} {m : Bool} (hg : getB bs i = some (c, T, m)) {β' : Nat → Bt} (hβ : Agr bs.length β β') : c.map (conc β) = c.map (conc β') := by
  have h1 := h.lies hg (Agr.refl _ β)
  have h2 := h.lies hg hβ
  rw [← hβ i (getB_lt hg)] at h2
  exact lies_agr (by simp) h1 h2
theorem setB_at {i : Nat} {r : Res} (h : bs[i]? = some r) (c : List SV) : setB bs i c = bs.set i (setR c r) := by unfold setB; rw [h]
theorem setR_mine (c : List SV) (r : Res) : (setR c r).mine = r.mine := by cases r <;> rfl
theorem setB_length (i : Nat) (c : List SV) : (setB bs i c).length = bs.length := by unfold setB; split <;> simp
theorem Wd.store (h : Wd F β fp bs w) {i : Nat} {c : List SV} {T : TypeId} (hg : getB bs i = some (c, T, true)) {off : Nat} {ys : List SV} (hys : ∀ β', Agr bs.length β β' → ys.map (conc β) = ys.map (conc β')) (h1 : ys.all one = true) (hl : off + ys.length ≤ c.length) (P : Program) :
    ∃ w', (storeCells ⟨(β i).blk, (β i).off + off, none⟩ (ys.map (conc β))).run P w = Result.ok () w' ∧ Wd F β fp (setB bs i (splice c off ys)) w' := by
  obtain ⟨r, hr, hm, hc⟩ := getB_some hg
  have hilt : i < bs.length := getB_lt hg
  have hh := (h.bx β (Agr.refl _ _)).holds i r hr
  rcases Nat.eq_zero_or_pos ys.length with h0 | hpos
  · have : ys = [] := List.eq_nil_of_length_eq_zero h0
    subst this
    refine ⟨w, rfl, ?_⟩
    have e : setB bs i (splice c off []) = bs := by
      have : splice c off [] = c := by simp [splice]
      rw [this, setB_at hr]
      apply List.ext_getElem?
      intro j
      by_cases hji : j = i
      · subst hji
        rw [List.getElem?_set_self hilt, hr]
        rcases hc with rfl | ⟨s, n, rfl⟩ <;> rfl
      · rw [List.getElem?_set_ne (fun e => hji e.symm)]
    rw [e]; exact h
  -- the block, whatever it is
  have key : (β i).off = 0 ∧ (∃ rest fz T', Head w (β i).blk T' (c.map (conc β)) rest fz) ∧ ∀ k, fp i k ↔ k = (β i).blk := by
    rcases hc with rfl | ⟨s, n, rfl⟩
    · obtain ⟨k0, ⟨rest, fz, hd, -⟩, k3⟩ := hh
      exact ⟨k0, ⟨rest, fz, _, hd⟩, k3⟩
    · rcases hh with ⟨-, -, h3, -⟩ | ⟨-, -, -, -, -, h6, h7⟩
      · rw [h3] at hl; simp only [List.length_nil] at hl; omega
      · obtain ⟨k0, rest, fz, hd, -⟩ := h6 rfl
        exact ⟨k0, ⟨rest, fz, _, hd⟩, h7⟩
  obtain ⟨hoff, ⟨rest, fz, T', hd⟩, hfi⟩ := key
  have hrun := run_storeCells_fz (P := P) (β i).blk off T' fz (ys.map (conc β)) 0 _ w hd.1 (by simp; omega) (by have := hd.2; simp at this ⊢; omega) (fun v hv => by
    simp only [List.mem_map] at hv
    obtain ⟨x, hx, rfl⟩ := hv
    exact one_oneCell (List.all_eq_true.1 h1 x hx) β)
  have e : (List.take (off + 0) (c.map (conc β) ++ rest) ++ ys.map (conc β) ++ List.drop (off + 0 + (ys.map (conc β)).length) (c.map (conc β) ++ rest)) = (splice c off ys).map (conc β) ++ rest := by
    simp only [Nat.add_zero, List.length_map, splice, List.map_append, List.map_take, List.map_drop]
    rw [List.take_append_of_le_length (by simp; omega), List.drop_append_of_le_length (by simp; omega)]
    simp
  simp only [e] at hrun
  rw [hoff, Nat.zero_add]
  refine ⟨_, hrun, ?_⟩
  have hother : ∀ k, k ≠ (β i).blk → (w.setRow (β i).blk ((splice c off ys).map (conc β) ++ rest).toArray).heap[k]? = w.heap[k]? := fun k hk => setRow_other _ _ _ _ hk
  have hnew : ∀ β', Agr bs.length β β' → Head (w.setRow (β i).blk ((splice c off ys).map (conc β) ++ rest).toArray) (β i).blk T' ((splice c off ys).map (conc β')) rest fz := fun β' hβ => by
    have ea : (splice c off ys).map (conc β) = (splice c off ys).map (conc β') := by
      simp only [splice, List.map_append, List.map_take, List.map_drop, hys β' hβ, h.agr hg hβ]
    refine ⟨?_, ?_⟩
    · rw [setRow_heap _ _ _ _ _ _ hd.1, ea]
    · have := hd.2
      simp [splice] at this ⊢
      omega
  have hset := setB_at hr (splice c off ys)
  have slen : (splice c off ys).length = c.length := by simp [splice]; omega
  rw [hset]
  have old : ∀ {j r'}, (bs.set i (setR (splice c off ys) r))[j]? = some r' → (j ≠ i ∧ bs[j]? = some r') ∨ (j = i ∧ r' = setR (splice c off ys) r) := fun {j r'} hj => by
    by_cases hji : j = i
    · subst hji
      rw [List.getElem?_set_self hilt] at hj
      exact .inr ⟨rfl, by simpa using hj.symm⟩
    · rw [List.getElem?_set_ne (fun e => hji e.symm)] at hj
      exact .inl ⟨hji, hj⟩
  have oldr : ∀ {j : Nat} {r' : Res}, (bs.set i (setR (splice c off ys) r))[j]? = some r' → ∃ r0 : Res, bs[j]? = some r0 ∧ r0.mine = r'.mine := fun {j r'} hj => by
    rcases old hj with ⟨-, hj⟩ | ⟨rfl, rfl⟩
    · exact ⟨r', hj, rfl⟩
    · exact ⟨r, hr, (setR_mine _ _).symm⟩
  refine ⟨⟨h.fr.os, h.fr.tape, h.fr.output, by simpa using h.fr.size, fun k hk hn => (hother k (fun e => ?_)).trans (h.fr.block k hk hn)⟩, fun β' hβ => ?_, fun j r' hj hm' k hk => ?_, ?_⟩
  · rcases h.mine i _ hr hm k ((hfi k).2 e) with h1 | h1
    · omega
    · exact hn h1
  · rw [List.length_set] at hβ
    have hb := h.bx β' hβ
    have hhb := hb.holds i r hr
    refine ⟨fun j r' hj => ?_, fun j r' hj k hk => ?_, fun j l r1 r2 hj hl' hne hmm => ?_⟩
    · rcases old hj with ⟨hji, hj⟩ | ⟨rfl, rfl⟩
      · refine (hb.holds j r' hj).stays (fun k hk => hother k (fun e => ?_))
        exact hb.sep j i r' r hj hr hji (.inr hm) k hk ((hfi k).2 e)
      · have hn := hnew β' hβ
        rw [← hβ j hilt]
        rw [← hβ j hilt] at hhb
        rcases hc with rfl | ⟨s, n, rfl⟩
        · have : T' = T := by
            obtain ⟨-, ⟨rest', fz', hd', -⟩, -⟩ := hhb
            have := hd'.1
            rw [hd.1] at this
            injection this with this
            injection this
          subst this
          have hre : rest = [] := by
            obtain ⟨-, ⟨rest', fz', hd', hr'⟩, -⟩ := hhb
            have := hd'.1
            rw [hd.1] at this
            injection this with this
            injection this with this
            have := congrArg Array.size this
            subst hr'
            simp at this
            exact this
          exact ⟨hoff, ⟨rest, fz, hn, hre⟩, hfi⟩
        · rcases hhb with ⟨-, -, h3, -⟩ | ⟨k1, k2, k3, k4, k5, k6, k7⟩
          · rw [h3] at hl; simp only [List.length_nil] at hl; omega
          · obtain ⟨-, rest', fz', hd', hfr', hsz⟩ := k6 rfl
            have hboth := hd'.1
            rw [hd.1] at hboth
            injection hboth with hboth
            injection hboth with hcells hT hfz
            subst hT hfz
            have hrl : rest'.length = rest.length := by
              have := congrArg Array.size hcells
              simp at this
              omega
            refine .inr ⟨k1, k2, k3, by rw [slen]; exact k4, by rw [hoff]; exact hn.lies, fun _ => ⟨hoff, rest, fz, hn, by rw [slen, ← hrl]; exact hfr', by rw [slen, ← hrl]; exact hsz⟩, k7⟩
    · obtain ⟨r0, hr0, -⟩ := oldr hj
      rw [setRow_size]
      exact hb.lt j r0 hr0 k hk
    · obtain ⟨r3, hr3, e3⟩ := oldr hj
      obtain ⟨r4, hr4, e4⟩ := oldr hl'
      exact hb.sep j l r3 r4 hr3 hr4 hne (by rw [e3, e4]; exact hmm)
  · obtain ⟨r0, hr0, e0⟩ := oldr hj
    exact h.mine j r0 hr0 (e0.trans hm') k hk
  · exact ⟨h.ini.agr, by rw [List.length_set]; exact h.ini.len⟩
theorem wp_of_value {o : Oper} {a : Act} {v : Value} {w w' : World} {next : Act → World → Prop} {Q : Exit → Act → World → Prop} (h : (execOp a.eval o).run V.P w = Result.ok (.value v) w') (hn : next (a.put o.dst v) w') : o.wp V.P a w next Q := by
  unfold Oper.wp
  rw [h]
  exact hn
theorem wp_of_skip {o : Oper} {a : Act} {w w' : World} {next : Act → World → Prop} {Q : Exit → Act → World → Prop} (h : (execOp a.eval o).run V.P w = Result.ok .skip w') (hn : next (a.put o.dst undef) w') : o.wp V.P a w next Q := by
  unfold Oper.wp
  rw [h]
  exact hn
theorem run_alloc (T : TypeId) (ti : TI) (hT : V.Γ T = some ti) (w : World) :
    (Instr.alloc T true (.tuple #[])).run V.P w = Result.ok (.pointer (some ⟨w.heap.size, 0, none⟩)) (w.alloc (.cells (ti.zero.map (conc bt0)).toArray T)) := by
  obtain ⟨z, hz, hc⟩ := (V.gok T ti hT).zero w
  simp [Instr.alloc, hz, newVar, newRow, hc]
theorem run_box (T : TypeId) (v : Value) (w : World) :
    (Instr.box T v).run V.P w = Result.ok (.pointer (some ⟨w.heap.size, 0, none⟩)) (w.alloc (.cells v.cells T)) := by
  simp [Instr.box, newVar, newRow]
theorem addr_plus (b o j : Nat) : (⟨b, o, none⟩ : Addr).add j = ⟨b, o + j, none⟩ := by unfold Addr.add; split <;> simp_all
theorem run_load (T : TypeId) (ti : TI) (hT : V.Γ T = some ti) {c : List SV} {β : Nat → Bt} {b base off : Nat} {x : SV} (hx : partS ti.agg off ti.size c = some x) (hl : off + ti.size ≤ c.length)
    (hh : Lies w b base (c.map (conc β))) : (Instr.loadAt T (.pointer (some ⟨b, base + off, none⟩))).run V.P w = Result.ok (conc β x) w := by
  have hz := (V.gok T ti hT).size w
  have ha := (V.gok T ti hT).agg w
  unfold partS at hx
  cases hg : ti.agg
  · rw [hg] at ha hx
    simp only [Bool.false_eq_true, if_false] at hx
    have hc' := hh off (conc β x) (by rw [List.getElem?_map, hx]; rfl)
    simp [Instr.loadAt, Instr.sureAddr, loadVar, ha, hc']
  · rw [hg] at ha hx
    simp only [if_true, Option.some.injEq] at hx
    subst hx
    have hlen : (((c.drop off).take ti.size).map (conc β)).length = ti.size := by simp; omega
    have := run_loadCells_list (P := V.P) w ⟨b, base + off, none⟩ (((c.drop off).take ti.size).map (conc β)) (fun j v hv => by
      rw [addr_plus, Nat.add_assoc]
      refine hh (off + j) v ?_
      simp only [List.getElem?_map, List.getElem?_take, List.getElem?_drop] at hv ⊢
      split at hv
      · exact hv
      · simp at hv)
    rw [hlen] at this
    simp [Instr.loadAt, Instr.sureAddr, loadVar, ha, hz, this, conc, concL_map]
theorem run_storeAt (h : Wd F β fp bs w) (T : TypeId) (s : Nat) (hT : sz V.Γ T = some s) {i off : Nat} {c : List SV} {T' : TypeId} {y : SV} (hg : getB bs i = some (c, T', true)) (hy : ∀ β', Agr bs.length β β' → conc β y = conc β' y) (h1 : (cells y).all one = true) (hs : (cells y).length = s) (hl : off + s ≤ c.length) :
    ∃ w', (Instr.storeAt T (.pointer (some ⟨(β i).blk, (β i).off + off, none⟩)) (conc β y)).run V.P w = Result.ok () w' ∧ Wd F β fp (setB bs i (splice c off (cells y))) w' := by
  have hz : (Go.sizeOf T).run V.P w = Result.ok s w := by
    unfold sz at hT
    cases ht : V.Γ T with
    | none => simp [ht] at hT
    | some ti => simp [ht] at hT; rw [← hT]; exact (V.gok T ti ht).size w
  have hcells := conc_cells' β y (isV_of_one h1)
  obtain ⟨w', hrun, hw⟩ := h.store hg (off := off) (ys := cells y) (fun β' hβ => by
    have e := congrArg Value.cells (hy β' hβ)
    rw [conc_cells' β y (isV_of_one h1), conc_cells' β' y (isV_of_one h1)] at e
    simpa using e) h1 (by omega) V.P
  refine ⟨w', ?_, hw⟩
  simp [Instr.storeAt, Instr.sureAddr, storeVar, hz, hcells, hs, hrun]
theorem evs_ok {m : Nat} (h : Fm F β m t a) {os : List Operand} {l : List SV} (e : evs t os = some l) {β' : Nat → Bt} (hβ : Agr m β β') : os.map a.eval = concL β' l := by
  rw [concL_map]; exact mapM_ev (h.ok β' hβ) e
theorem evParts_ok {m : Nat} (h : Fm F β m t a) {β' : Nat → Bt} (hβ : Agr m β β') : ∀ {ps : List (Nat × Operand)} {l : List (Nat × SV)}, evParts t ps = some l → ps.map (fun p => (p.1, a.eval p.2)) = l.map fun p => (p.1, conc β' p.2)
  | [], l, e => by simp [evParts] at e; subst e; rfl
  | (i, o) :: r, l, e => by
    simp only [evParts] at e
    split at e
    · rename_i x hx
      split at e
      · rename_i l' hl
        cases e
        simp [h.ev hx hβ, evParts_ok h hβ hl]
      · cases e
    · cases e
theorem mapM_sizes {P : Program} (w : World) : ∀ (L : List Field), (∀ f ∈ L, ∃ n, ∀ w, (Go.sizeOf f.type).run P w = Result.ok n w) →
    ∃ pl : List (Nat × Nat), (L.mapM fun (f : Field) => do pure (f.offset, ← Go.sizeOf f.type)).run P w = Result.ok pl w ∧ ∀ (i : Nat) (f : Field) (n : Nat), L[i]? = some f → (Go.sizeOf f.type).run P w = Result.ok n w → pl[i]? = some (f.offset, n)
  | [], _ => ⟨[], by simp, by simp⟩
  | f :: L, h => by
    obtain ⟨n, hn⟩ := h f (by simp)
    obtain ⟨pl, hpl, hat⟩ := mapM_sizes w L (fun g hg => h g (by simp [hg]))
    refine ⟨(f.offset, n) :: pl, ?_, fun i g m hi hm => ?_⟩
    · simp only [List.mapM_cons, Sem.run_bind, hn, Result.andThen_ok, Sem.run_pure, hpl]
    · cases i with
      | zero =>
        simp at hi
        subst hi
        rw [hn w] at hm
        injection hm with hm
        simp [hm]
      | succ i => simp at hi ⊢; exact hat i g m hi hm
theorem fill_ok (fs : List (Nat × TypeId)) (F' : Array Field) (hF : F'.toList.map (fun f => (f.offset, f.type)) = fs) (places : Array (Nat × Nat)) (hpl : ∀ (i off : Nat) (T : TypeId), fs[i]? = some (off, T) → ∀ n, sz V.Γ T = some n → places[i]? = some (off, n)) (β : Nat → Bt) :
    ∀ (ps : List (Nat × SV)) (c c' : List SV), fillS fs V.Γ ps c = some c' → Instr.fill (places[·]?) (c.map (conc β)).toArray (ps.map fun p => (p.1, conc β p.2)) = some (c'.map (conc β)).toArray
  | [], c, c', e => by simp [fillS] at e; subst e; rfl
  | (i, x) :: r, c, c', e => by
    simp only [fillS] at e
    split at e
    · rename_i off T hfs
      split at e
      · rename_i n hn
        split at e
        · rename_i hcond
          obtain ⟨hv, hl, ho⟩ := hcond
          have ih := fill_ok fs F' hF places hpl β r _ c' e
          have hcells := conc_cells' β x hv
          simp only [List.map_cons, Instr.fill, hpl i off T hfs n hn, hcells, List.size_toArray, List.length_map]
          rw [if_neg (by simp [hl]; omega)]
          rw [← ih]
          congr 1
          have hz := zip_fold off ((cells x).map (conc β)) 0 (c.map (conc β)).toArray (by simp; omega)
          rw [← Array.foldl_toList, Array.toList_zipIdx]
          simp only [Nat.add_zero, List.length_map] at hz
          rw [hz]
          simp [splice, List.map_take, List.map_drop]
        · cases e
      · cases e
    · cases e
theorem run_build {m : Nat} {T : TypeId} {ti : TI} {fs : List (Nat × TypeId)} {ps : Array (Nat × Operand)} {l : List (Nat × SV)} {c : List SV} (hf : Fm F β m t a) (hT : V.Γ T = some ti) (hk : ti.kind = .struct fs) (hl : evParts t ps.toList = some l) (hc : fillS fs V.Γ l ti.zero = some c) {β' : Nat → Bt} (hβ : Agr m β β')
    (dst : Option Tmp) (ty : TypeId) (pos : String) (after : Array Edge) (guard : Option (Nat × Bool)) : (execOp a.eval { dst := dst, op := .build T ps, type := ty, pos := pos, after := after, guard := guard }).run V.P w = Result.ok (.value (conc β' (.agg c))) w := by
  have hok := V.gok T ti hT
  obtain ⟨d, hd, hs⟩ := hok.und
  rw [hk] at hs
  obtain ⟨Fs, rfl, hF⟩ := hs
  obtain ⟨z, hz, hzc⟩ := hok.zero w
  have hfl := hok.flat
  obtain ⟨pl, hpl, hat⟩ := mapM_sizes (P := V.P) w Fs.toList (fun f hf' => by
    have := hok.flds fs hk (f.offset, f.type) (by rw [← hF]; exact List.mem_map_of_mem hf')
    exact this)
  have hpl' : (Fs.mapM fun (f : Field) => do pure (f.offset, ← Go.sizeOf f.type)).run V.P w = Result.ok pl.toArray w := by
    rw [Array.mapM_eq_mapM_toList]
    rw [Sem.run_map, hpl]
    rfl
  have hps := evParts_ok hf hβ hl
  have hfill := fill_ok (V := V) fs Fs hF pl.toArray (fun i off T' hi n hn => by
    rw [← hF] at hi
    simp only [List.getElem?_map, Option.map_eq_some_iff, Prod.mk.injEq] at hi
    obtain ⟨fl, hfl', rfl, rfl⟩ := hi
    have hsz : (Go.sizeOf fl.type).run V.P w = Result.ok n w := by
      unfold sz at hn
      cases ht : V.Γ fl.type with
      | none => simp [ht] at hn
      | some ti' => simp [ht] at hn; rw [← hn]; exact (V.gok _ ti' ht).size w
    simpa using hat i fl n hfl' hsz) β' l ti.zero c hc
  rw [← hps, hfl β', ← hzc] at hfill
  refine run_val ?_
  simp only [Instr.build, Sem.run_bind, hz, Result.andThen_ok, run_underlying hd, hpl', Array.toList_map, hfill, conc, concL_map]
  rfl
theorem vcO_sound {dst : Option Tmp} {op : Op} {σ : St} {K : St → Prop} (h : vcO V F.n dst op σ K) {a : Act} {w : World} (hr : Rel F σ a w) (o : Oper) (hd : o.dst = dst) (ho : o.op = op) (Q : Exit → Act → World → Prop) :
    o.wp V.P a w (fun a w => ∃ σ, K σ ∧ Rel F σ a w) Q := by
  obtain ⟨β, fp, hf, hw⟩ := hr
  obtain ⟨hfit, h⟩ := h
  subst hd ho
  split at h
  · rename_i c x hp
    obtain ⟨hc, hK⟩ := h
    refine wp_of_value (pv_ok V.gok (hf.ok β (Agr.refl _ _)) hp hc w) ⟨_, hK, β, fp, hf.put hfit (fun β' hβ => ?_), hw⟩
    have h1 := pv_ok V.gok (hf.ok β (Agr.refl _ _)) hp hc w
    have h2 := pv_ok V.gok (hf.ok β' hβ) hp hc w
    rw [h1] at h2
    injection h2 with h2
    injection h2
  · rename_i hpv
    clear hpv
    obtain ⟨dst, op, ty, pos, after, guard⟩ := o
    simp only at hfit h ⊢
    cases op <;> simp only [vcM] at h
    case alloc T =>
      split at h
      · rename_i ti hT
        have hrun : (execOp a.eval { dst := dst, op := .alloc T, type := ty, pos := pos, after := after, guard := guard }).run V.P w = _ := run_val (run_alloc (V := V) T ti hT w)
        have hfl := (V.gok T ti hT).flat
        refine wp_of_value hrun ⟨_, h, upd β σ.b.length ⟨w.heap.size, 0, 0⟩, updF fp σ.b.length (· = w.heap.size), ?_, hw.alloc ti.zero T _ true (fun β' _ => by rw [hfl β'])⟩
        exact (hf.more (by simp) (upd_agr _ _ _)).put hfit (fun β' hβ => by simp only [conc]; rw [← hβ σ.b.length (by simp), upd_at])
      · cases h
    case box T x =>
      split at h
      · rename_i y hy
        obtain ⟨hv, h⟩ := h
        have hrun : (execOp a.eval { dst := dst, op := .box T x, type := ty, pos := pos, after := after, guard := guard }).run V.P w = _ := run_val (run_box (V := V) T (a.eval x) w)
        refine wp_of_value hrun ⟨_, h, upd β σ.b.length ⟨w.heap.size, 0, 0⟩, updF fp σ.b.length (· = w.heap.size), ?_, hw.alloc (cells y) T _ true (fun β' hβ => ?_)⟩
        · exact (hf.more (by simp) (upd_agr _ _ _)).put hfit (fun β' hβ => by simp only [conc]; rw [← hβ σ.b.length (by simp), upd_at])
        · rw [hf.ev hy hβ.of_upd, conc_cells' β' y hv]
      · cases h
    case load T x =>
      split at h
      · rename_i i off hx
        split at h
        · rename_i c T' m hg
          split at h
          · rename_i ti hT
            obtain ⟨hl, h⟩ := h
            split at h
            · rename_i y hy
              have hrun : ∀ β', Agr σ.b.length β β' → (execOp a.eval { dst := dst, op := .load T x, type := ty, pos := pos, after := after, guard := guard }).run V.P w = Result.ok (.value (conc β' y)) w := fun β' hβ => by
                have := run_load (V := V) T ti hT hy hl (hw.lies hg hβ)
                have hx' := hf.ev hx hβ
                simp only [conc] at hx'
                rw [← hx'] at this
                exact run_val this
              refine wp_of_value (hrun β (Agr.refl _ _)) ⟨_, h, β, fp, hf.put hfit (fun β' hβ => ?_), hw⟩
              have h1 := hrun β (Agr.refl _ _)
              rw [hrun β' hβ] at h1
              injection h1 with h1
              injection h1 with h1
              exact h1.symm
            · cases h
          · cases h
        · cases h
      · cases h
    case store T x y =>
      split at h
      · rename_i i off hx
        split at h
        · rename_i y' hy
          split at h
          · rename_i c T' m hg
            split at h
            · rename_i s hs
              obtain ⟨⟨hm, hone, hlen, hl⟩, h⟩ := h
              subst hm
              have hx' := hf.ev hx (Agr.refl _ β)
              simp only [conc] at hx'
              have hy' := hf.ev hy (Agr.refl _ β)
              obtain ⟨w', hrun, hw'⟩ := run_storeAt hw T s hs hg (y := y') (fun β' hβ => by rw [← hf.ev hy hβ, hy']) hone hlen hl
              rw [← hx', ← hy'] at hrun
              have hrun' : (execOp a.eval { dst := dst, op := .store T x y, type := ty, pos := pos, after := after, guard := guard }).run V.P w = Result.ok .skip w' := by
                show Sem.run V.P (do Instr.storeAt T (a.eval x) (a.eval y); pure Next.skip) w = _
                rw [Sem.run_bind, hrun]
                rfl
              refine wp_of_skip hrun' ⟨_, h, β, fp, ?_, hw'⟩
              exact (hf.more (by rw [setB_length]; exact Nat.le_refl _) (Agr.refl _ _)).put hfit (fun β' _ => rfl)
            · cases h
          · cases h
        · cases h
      · cases h
    case nilCheck x =>
      split at h
      · rename_i i off hx
        refine wp_of_value (v := a.eval x) (w' := w) ?_ ⟨_, h, β, fp, hf.put hfit (fun β' hβ => hf.ev hx hβ), hw⟩
        simp only [execOp]
        rw [hf.ev hx (Agr.refl _ β)]
        rfl
      · rename_i f l hx
        obtain ⟨hfn, h⟩ := h
        refine wp_of_value (v := a.eval x) (w' := w) ?_ ⟨_, h, β, fp, hf.put hfit (fun β' hβ => hf.ev hx hβ), hw⟩
        simp only [execOp]
        rw [hf.ev hx (Agr.refl _ β)]
        simp only [conc]
        cases f <;> first | rfl | cases hfn
      · cases h
    case call cl =>
      obtain ⟨callee, args, ts⟩ := cl
      cases callee <;> simp only at h
      rename_i fo
      split at h
      · rename_i f caps hfo
        split at h
        · rename_i l hl
          have hargs : ∀ β', Agr σ.b.length β β' → args.map a.eval = (concL β' l).toArray := fun β' hβ => by
            have := evs_ok hf hl hβ
            rw [← this]
            exact Array.ext' (by simp)
          have hexec : Enters V f → ∀ β', Agr σ.b.length β β' → (execOp a.eval { dst := dst, op := .call ⟨.value fo, args, ts⟩, type := ty, pos := pos, after := after, guard := guard }).run V.P w = Result.ok (.enter f (concL β' (l ++ caps)).toArray) w := fun he β' hβ => by
            have h1 := hf.ev hfo hβ
            have h2 := hargs β' hβ
            show Sem.run V.P (do let d ← resolve a.eval ⟨.value fo, args, ts⟩ ty; invoke d.target d.args) w = _
            simp only [resolve, h1, h2, conc, Deferred.ofValue, Sem.run_bind, Sem.run_pure, Result.andThen_ok, invoke]
            simp [concL_map]
            exact he _ _
          rcases h with ⟨r, hpc, h⟩ | ⟨R, ⟨hent, hsc⟩, h⟩
          · unfold Oper.wp
            rw [hexec hpc.enters β (Agr.refl _ _)]
            show Calls V.P f _ w _
            have hfl := concL_flat _ hpc.fa β bt0
            rw [hfl]
            refine (hpc.calls w hw.env).mono ?_
            rintro e w' ⟨rfl, hb⟩
            exact ⟨_, h, β, fp, hf.put hfit (fun β' _ => conc_flat r hpc.fr bt0 β'), hw.below hb⟩
          · unfold Oper.wp
            rw [hexec hent β (Agr.refl _ _)]
            show Calls V.P f _ w _
            refine (hsc β fp w hw.bx (fun i r hi hm k hk => ?_) hw.env).mono ?_
            · rcases hw.mine i r hi hm k hk with h1 | h1
              · exact Nat.le_trans (V.esize _ F.e0) h1
              · exact F.ownG k h1
            · rintro e w' ⟨r, bs', β₂, fp₂, hR, hβ, hle, hall, hfr, hmine⟩
              have he := (hall β₂ (Agr.refl _ _)).1
              subst he
              refine ⟨_, h r bs' hR, β₂, fp₂, (hf.more hle hβ).put hfit (fun β' hβ' => ?_), ⟨?_, fun β' hβ' => (hall β' hβ').2, fun i r' hi hm k hk => ?_, ?_⟩⟩
              · have := (hall β' hβ').1
                injection this
              · refine ⟨hfr.os.trans hw.fr.os, hfr.tape.trans hw.fr.tape, hfr.output.trans hw.fr.output, Nat.le_trans hw.fr.size hfr.size, fun k hk hn => ?_⟩
                rw [hfr.block k (Nat.lt_of_lt_of_le hk hw.fr.size) (fun ⟨i, r, hi, hm, hk'⟩ => ?_)]
                · exact hw.fr.block k hk hn
                · rcases hw.mine i r hi hm k hk' with h1 | h1
                  · omega
                  · exact hn h1
              · rcases hmine i r' hi hm k hk with h1 | ⟨j, r0, hj, hm0, hk0⟩
                · exact .inl (Nat.le_trans hw.fr.size h1)
                · exact hw.mine j r0 hj hm0 k hk0
              · have hil := hw.ini.len
                exact ⟨fun i hi => (hw.ini.agr i hi).trans (hβ i (by omega)), Nat.le_trans hil hle⟩
        · cases h
      · cases h
    case build T ps =>
      split at h
      · rename_i ti hT
        split at h
        · rename_i fs hk
          split at h
          · rename_i l hl
            split at h
            · rename_i c hc
              have hrun := fun β' (hβ : Agr σ.b.length β β') => run_build (w := w) hf hT hk hl hc hβ dst ty pos after guard
              refine wp_of_value (hrun β (Agr.refl _ _)) ⟨_, h, β, fp, hf.put hfit (fun β' hβ => ?_), hw⟩
              have h1 := hrun β (Agr.refl _ _)
              rw [hrun β' hβ] at h1
              injection h1 with h1
              injection h1 with h1
              exact h1.symm
            · cases h
          · cases h
        · cases h
      · cases h
end
end Vc
