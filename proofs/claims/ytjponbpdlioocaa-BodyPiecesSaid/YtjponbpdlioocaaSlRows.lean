/- Slices of flat values among the arguments. -/
import Derived.Test.YtjponbpdlioocaaFrame
import Derived.Test.YtjponbpdlioocaaVcB
import Derived.Deep.Slices
set_option linter.all false
namespace Go.Proofs.Ytjponbpdlioocaa
open Go Vc Go.RowKit Wf
open Go.ChangeShapes Go.WideShapes Go.ChangeAt
open Go.WideMaps Go.WideElems
theorem lies_app {w : World} {b off : Nat} {xs ys : List Value} (h1 : Lies w b off xs) (h2 : Lies w b (off + xs.length) ys) : Lies w b off (xs ++ ys) := fun j v hv => by
  rcases Nat.lt_or_ge j xs.length with h | h
  · rw [List.getElem?_append_left h] at hv
    exact h1 j v hv
  · rw [List.getElem?_append_right h] at hv
    have := h2 (j - xs.length) v hv
    rwa [show off + xs.length + (j - xs.length) = off + j by omega] at this
theorem lies_rows {ρ : Type} {w : World} {b s : Nat} (vs : ρ → List Value) : ∀ (L : List ρ) (off : Nat), (∀ r ∈ L, (vs r).length = s) → (∀ (i : Nat) (r : ρ), L[i]? = some r → Lies w b (off + i * s) (vs r)) → Lies w b off (L.flatMap vs)
  | [], _, _, _ => fun j v hv => by simp at hv
  | r :: L, off, hs, h => by
    rw [List.flatMap_cons]
    refine lies_app (by simpa using h 0 r rfl) (lies_rows vs L _ (fun q hq => hs q (List.mem_cons_of_mem _ hq)) (fun i q hq => ?_))
    have := h (i + 1) q hq
    rw [hs r List.mem_cons_self]
    rwa [show off + s + i * s = off + (i + 1) * s by rw [Nat.add_mul]; omega]
theorem flat_rows {ρ : Type} {s : Nat} (vs : ρ → List SV) : ∀ (L : List ρ), (∀ r ∈ L, (vs r).length = s) → (L.flatMap vs).length = L.length * s
  | [], _ => by simp
  | r :: L, hs => by
    rw [List.flatMap_cons, List.length_append, hs r List.mem_cons_self, flat_rows vs L (fun q hq => hs q (List.mem_cons_of_mem _ hq)), List.length_cons, Nat.add_mul]
    omega
section
variable {H : Type} {enc : TypeId × Value → H} {P : Program} {w : World} {held : Bool}
/-- A slice of flat values: where it lies, and its rows. -/
theorem open_rows {ρ : Type} (dflt : ρ) (cl : ρ → List SV) (dt : ρ → DataW H) (hfl : ∀ r, flat.flatL (cl r) = true) {t e : TypeId} {s : Nat} (ht : P.underlying t = some (.slice e)) (hs : P.cellsOf e = s)
    (hrow : ∀ fuel cs x, DataW.trod enc P w 0 (fun _ => true) held fuel e cs = some x → ∃ r, cs = concL bt0 (cl r) ∧ x.1 = dt r)
    {rch : Reach} {b0 : Nat} {v : Value} {n : Nat} {x : DataW H × List MemPlace} (hok : Cell.okWide P w rch b0 t v) (h : DataW.trod enc P w 0 (fun _ => true) held n t [v] = some x) :
    ∃ (b : Bt) (L : List ρ), v = oV b L.length ∧ L.length ≤ 9223372036854775807 ∧ ((x.1 = .nil ∧ L = []) ∨ ∃ sp', x.1 = .slice (L.map dt) sp') ∧ (∀ β, Holds β b (fun k => k = b.blk ∧ b.cap ≠ 0) w (.own (L.flatMap cl) e s L.length false)) ∧ (b.cap ≠ 0 → b.blk < w.heap.size) := by
  obtain ⟨a0, len0, cap0, rfl⟩ : ∃ a len cap, v = .slice a len cap := by
    simp only [Cell.okWide, ht] at hok
    cases v <;> simp_all [Cell.ok]
  have hf := h
  rcases Go.Deep.open_slice ht hf with ⟨hv, hx⟩ | ⟨a, len, cap, m, n, D, Pl, hv, hb, hl, hm, hmm, hx, hel⟩
  · simp only [List.cons.injEq, Value.slice.injEq, and_true] at hv
    obtain ⟨rfl, rfl, rfl⟩ := hv
    exact ⟨⟨0, 0, 0⟩, [], by simp [oV], by simp, .inl ⟨by rw [hx], rfl⟩, fun β => .inl ⟨rfl, rfl, rfl, by simp⟩, fun k => absurd rfl k⟩
  · simp only [List.cons.injEq, Value.slice.injEq, and_true] at hv
    obtain ⟨rfl, rfl, rfl⟩ := hv
    have hhas : w.has P rch b0 a e cap0 := by
      simp only [Cell.okWide, ht, Cell.ok] at hok
      exact hok.2.2
    obtain ⟨-, hspot, row, cells, hshape, -⟩ := hhas
    obtain ⟨blk, off, spot⟩ := a
    simp only at hspot hshape
    subst hspot
    have hblk : blk < w.heap.size := by
      rcases Nat.lt_or_ge blk w.heap.size with h' | h'
      · exact h'
      · unfold World.shape? at hshape
        simp [Array.getElem?_eq_none h'] at hshape
    have hmc : m = cap0 := by rw [hmm]; simp
    subst hmc
    haveI : Inhabited ρ := ⟨dflt⟩
    obtain ⟨R, hR⟩ := Go.Deep.choose_lt (α := ρ) (n := len0) (p := fun i r => (∀ q v, (concL bt0 (cl r))[q]? = some v → w.cell? ⟨blk, off + i * s + q, none⟩ = some v) ∧ (cl r).length = s ∧ D i = dt r) (fun i hi => by
      obtain ⟨cs', h1, h2⟩ := hel i (by omega)
      obtain ⟨r, rfl, hd⟩ := hrow n cs' _ h2
      rw [hs] at h1
      obtain ⟨-, h3, h4⟩ := World.cells?_some h1
      rw [concL_map, List.length_map] at h3
      refine ⟨r, fun q v hv => ?_, h3, hd⟩
      have hq : q < s := by
        have := (List.getElem?_eq_some_iff.1 hv).1
        rwa [concL_map, List.length_map, h3] at this
      have := h4 q hq
      rw [addr_plus, addr_plus] at this
      rw [this]; exact hv)
    have hlen : ((List.range len0).map R).length = len0 := by simp
    have hall : ∀ r ∈ (List.range len0).map R, (cl r).length = s := by
      intro r hr
      obtain ⟨i, hi, rfl⟩ := List.mem_map.1 hr
      exact (hR i (List.mem_range.1 hi)).2.1
    have hmx : m ≤ 9223372036854775807 := by unfold maxLen at hm; simpa using hm
    have hlies : ∀ β, Lies w blk off ((((List.range len0).map R).flatMap cl).map (conc β)) := fun β => by
      have e1 : (((List.range len0).map R).flatMap cl).map (conc β) = ((List.range len0).map R).flatMap fun r => concL β (cl r) := by
        rw [List.map_flatMap]
        congr 1
        funext r
        rw [concL_map]
      rw [e1]
      refine lies_rows (s := s) _ _ _ (fun r hr => by rw [concL_map, List.length_map]; exact hall r hr) (fun i r hr q v hv => ?_)
      have hi : i < len0 := by
        have := (List.getElem?_eq_some_iff.1 hr).1
        simpa using this
      have hr2 : R i = r := by simpa [hi] using hr
      subst hr2
      rw [concL_flat _ (hfl _) β bt0] at hv
      have := (hR i hi).1 q v hv
      simpa [Nat.add_assoc] using this
    refine ⟨⟨blk, off, m + 1⟩, (List.range len0).map R, by simp [oV], by rw [hlen]; omega, .inr ⟨(List.range (m - len0)).map fun j => D (len0 + j), ?_⟩, fun β => .inr ⟨by simp, by simpa using hl, by simpa using hm, flat_rows cl _ hall, hlies β, (fun hm => absurd hm (by simp)), fun k => by simp⟩, fun _ => hblk⟩
    have hD : (List.range len0).map D = ((List.range len0).map R).map dt := by
      rw [List.map_map]
      exact List.map_congr_left fun i hi => (hR i (List.mem_range.1 hi)).2.2
    rw [hx, hD]
end
/-- What a slice's elements weigh is in what the slice weighs. -/
theorem weights_rows {H : Type} {P : Program} {t e : TypeId} (ht : P.underlying t = some (.slice e)) {ρ : Type} {dt : ρ → DataW H} {L : List ρ} {d : DataW H} (hd : (d = .nil ∧ L = []) ∨ ∃ sp, d = .slice (L.map dt) sp) {r : ρ} (hr : r ∈ L) {n : Nat} (hn : n ∈ (dt r).weights P e) : n ∈ d.weights P t := by
  rcases hd with ⟨-, rfl⟩ | ⟨sp, rfl⟩
  · cases hr
  · simp only [DataW.weights, ht, List.mem_cons, List.mem_append]
    right; left
    induction L with
    | nil => cases hr
    | cons q L ih =>
      simp only [List.map_cons, DataW.weightsAll, List.mem_append]
      rcases List.mem_cons.1 hr with rfl | hr
      · exact .inl hn
      · exact .inr (ih hr)
theorem weights_field {H : Type} {P : Program} {t u : TypeId} {fs : Array Field} (ht : P.underlying t = some (.struct fs)) {parts : List (DataW H)} {j : Nat} {d : DataW H} (hj : (fs.toList.map (·.type))[j]? = some u) (hd : parts[j]? = some d) {n : Nat} (hn : n ∈ d.weights P u) : n ∈ (DataW.agg parts).weights P t := by
  simp only [DataW.weights, ht]
  exact DataW.weights_mem_each hj hd n hn
theorem ok_cell {P : Program} {w : World} {r : Reach} {b : Nat} {t e : TypeId} {v : Value} (ht : P.underlying t = some (.slice e)) (h : Value.okWide P w r b t v) : Cell.okWide P w r b t v := by
  simpa only [Value.okWide, ht] using h
theorem ok_field {P : Program} {w : World} {r : Reach} {b : Nat} {t : TypeId} {fs : Array Field} {cs : List Value} {ts : List TypeId} (ht : P.underlying t = some (.struct fs)) (hts : P.cellTypes P.depth t = some ts) (h : Value.okWide P w r b t (.agg cs.toArray)) (i : Nat) (u : TypeId) (v : Value) (hv : cs[i]? = some v) (hu : ts[i % ts.length]? = some u) : Cell.okWide P w r b u v := by
  simp only [Value.okWide, ht] at h
  obtain ⟨cs', h1, -, ts', h3, -, h5⟩ := h
  rw [hts] at h3
  cases h3
  injection h1 with h1
  subst h1
  obtain ⟨u', h6, h7⟩ := h5 i v (by simpa using hv)
  rw [hu] at h6
  cases h6
  exact h7
/-- What a contract with slices says of a law. -/
theorem SC.law {V : Cx} {f : FuncId} {args : List SV} {l : List (Bt × Res)} (h : SC V f args (l.map (·.2)) (fun r _ => r = .bool true)) {w : World} (hE : V.E w)
    (hh : ∀ x ∈ l, x.2.mine = false ∧ (∀ β, Holds β x.1 (fun k => k = x.1.blk ∧ x.1.cap ≠ 0) w x.2) ∧ (x.1.cap ≠ 0 → x.1.blk < w.heap.size)) :
    Calls V.P f (concL (fun i => ((l[i]?).map (·.1)).getD (bt0 0)) args).toArray w fun e w' => e = .returned (.bool true) ∧ Below w.heap.size w w' := by
  have hno : ∀ (i : Nat) (r : Res), (l.map (·.2))[i]? = some r → r.mine = false := fun i r hi => by
    rw [List.getElem?_map, Option.map_eq_some_iff] at hi
    obtain ⟨x, hx, rfl⟩ := hi
    exact (hh x (List.mem_of_getElem? hx)).1
  obtain ⟨β, hβ0⟩ : ∃ β : Nat → Bt, β = fun i => ((l[i]?).map (·.1)).getD (bt0 0) := ⟨_, rfl⟩
  rw [← hβ0]
  obtain ⟨fp, hfp⟩ : ∃ fp : Nat → Nat → Prop, ∀ i k, fp i k ↔ ∃ x, l[i]? = some x ∧ k = x.1.blk ∧ x.1.cap ≠ 0 := ⟨fun i k => ∃ x, l[i]? = some x ∧ k = x.1.blk ∧ x.1.cap ≠ 0, fun _ _ => Iff.rfl⟩
  have hbx : ∀ β', Agr (l.map (·.2)).length β β' → BxOK β' fp w (l.map (·.2)) := fun β' hβ => by
    refine BxOK.mk ?_ ?_ ?_
    · intro i r hi
      rw [List.getElem?_map, Option.map_eq_some_iff] at hi
      obtain ⟨x, hx, rfl⟩ := hi
      have hb : β' i = x.1 := by
        have := hβ i (by simpa using (List.getElem?_eq_some_iff.1 hx).1)
        rw [← this, hβ0]; simp [hx]
      rw [hb]
      have h2 := (hh x (List.mem_of_getElem? hx)).2.1 β'
      have e : fp i = fun k => k = x.1.blk ∧ x.1.cap ≠ 0 := by
        funext k
        exact propext ⟨fun h => by obtain ⟨y, hy, h1⟩ := (hfp i k).1 h; rw [hx] at hy; cases hy; exact h1, fun h => (hfp i k).2 ⟨x, hx, h⟩⟩
      rw [e]; exact h2
    · intro i r hi k hk
      obtain ⟨x, hx, rfl, hc⟩ := (hfp i k).1 hk
      exact (hh x (List.mem_of_getElem? hx)).2.2 hc
    · intro i j r r' hi hj _ hm
      rw [hno i r hi, hno j r' hj] at hm
      simp at hm
  refine (h.2 β fp w hbx ?_ hE).mono ?_
  · intro i r hi hm
    rw [hno i r hi] at hm
    cases hm
  · rintro e w' ⟨r, bs', β₂, fp₂, rfl, hag, hle, hall, hfr, -⟩
    refine ⟨by have := (hall β₂ (Agr.refl _ _)).1; simpa [conc] using this, ?_⟩
    refine (hfr.mono (own' := fun _ => False) ?_).below
    rintro k ⟨i, r, hi, hm, -⟩
    rw [hno i r hi] at hm
    cases hm
end Go.Proofs.Ytjponbpdlioocaa
