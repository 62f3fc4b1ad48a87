/- A library call that makes a row, as a contract of the calculus. -/
import Derived.Test.YtnncgbamppaacaaDoorVcB
set_option linter.all false
namespace Go.Proofs.YtnncgbamppaacaaDoor
open Go Vc Go.RowKit
theorem heap_new0 (w : World) (o : Obj) : (w.alloc o).heap[w.heap.size]? = some o := by
  show (w.heap.push o)[w.heap.size]? = some o
  simp
theorem heap_size0 (w : World) (o : Obj) : (w.alloc o).heap.size = w.heap.size + 1 := by
  show (w.heap.push o).size = _
  simp
theorem sc_row {V : Cx} {f : FuncId} {args : List SV} {bs : List Res} {c : List SV} {T : TypeId} (hent : Vc.Enters V f) (hfa : flat.flatL args = true) (hfc : flat.flatL c = true) (hn : c.length ≤ maxLen)
    (h : ∀ w, V.E w → Calls V.P f (concL bt0 args).toArray w fun e w' => e = .returned (.slice (some ⟨w.heap.size, 0, none⟩) c.length c.length) ∧ w' = w.alloc (.cells (concL bt0 c).toArray T)) :
    SC V f args bs (fun r b => r = .o bs.length c.length ∧ b = bs ++ [.own c T 1 c.length true]) := by
  refine ⟨hent, fun β fp w hbx hG hE => ?_⟩
  rw [concL_flat args hfa β bt0]
  refine (h w hE).mono ?_
  rintro e w' ⟨rfl, rfl⟩
  have hb : Below w.heap.size w (w.alloc (.cells (concL bt0 c).toArray T)) := Below.alloc (Below.refl _ _) (Nat.le_refl _) _
  refine ⟨.o bs.length c.length, bs ++ [.own c T 1 c.length true], fun i => if i < bs.length then β i else ⟨w.heap.size, 0, c.length + 1⟩,
    fun i k => if i < bs.length then fp i k else (i = bs.length ∧ k = w.heap.size), ⟨rfl, rfl⟩, fun i hi => by simp [hi], by simp, fun β' hβ => ?_, FrW.of_below hb, ?_⟩
  · have hAgr : Agr bs.length β β' := fun i hi => by
      have := hβ i (by rw [List.length_append]; omega)
      simpa [hi] using this
    have hn1 : β' bs.length = ⟨w.heap.size, 0, c.length + 1⟩ := by
      have := hβ bs.length (by simp)
      simpa using this.symm
    have hbw := hbx β' hAgr
    refine ⟨?_, ?_, ?_, ?_⟩
    · simp [conc, hn1, oV]
    · intro i r hi
      rcases Nat.lt_or_ge i bs.length with hlt | hge
      · rw [List.getElem?_append_left hlt] at hi
        have := (hbw.holds i r hi).stays (w' := w.alloc (.cells (concL bt0 c).toArray T)) (fun k hk => hb.block k (hbw.lt i r hi k hk))
        simpa [hlt] using this
      · rw [List.getElem?_append_right hge] at hi
        obtain rfl : i = bs.length := by
          rcases Nat.eq_or_lt_of_le hge with e | e
          · exact e.symm
          · rw [List.getElem?_eq_none (by simp; omega)] at hi; cases hi
        simp only [Nat.sub_self, List.getElem?_cons_zero, Option.some.injEq] at hi
        subst hi
        right
        have hc : (concL bt0 c) = c.map (conc β') := by rw [← concL_map, concL_flat c hfc bt0 β']
        have hhd : Head (w.alloc (.cells (concL bt0 c).toArray T)) w.heap.size T (c.map (conc β')) [] (0, 0) := ⟨by rw [List.append_nil, ← hc]; exact heap_new0 _ _, .inr (Nat.le_refl _)⟩
        rw [hn1]
        exact ⟨by simp, by simp, by simpa using hn, by simp, hhd.lies, fun _ => ⟨rfl, [], (0, 0), hhd, .inr (Nat.le_refl _), by simp⟩, fun k => by simp⟩
    · intro i r hi k hk
      rcases Nat.lt_or_ge i bs.length with hlt | hge
      · rw [List.getElem?_append_left hlt] at hi
        simp only [hlt, if_true] at hk
        exact Nat.lt_of_lt_of_le (hbw.lt i r hi k hk) hb.size
      · simp only [show ¬ i < bs.length by omega, if_false] at hk
        rw [hk.2, heap_size0]
        omega
    · intro i j r r' hi hj hij hm k hk hk'
      rcases Nat.lt_or_ge i bs.length with hlt | hge
      · rw [List.getElem?_append_left hlt] at hi
        simp only [hlt, if_true] at hk
        rcases Nat.lt_or_ge j bs.length with hjt | hjg
        · rw [List.getElem?_append_left hjt] at hj
          simp only [hjt, if_true] at hk'
          exact hbw.sep i j r r' hi hj hij hm k hk hk'
        · simp only [show ¬ j < bs.length by omega, if_false] at hk'
          have := hbw.lt i r hi k hk
          omega
      · simp only [show ¬ i < bs.length by omega, if_false] at hk
        rcases Nat.lt_or_ge j bs.length with hjt | hjg
        · rw [List.getElem?_append_left hjt] at hj
          simp only [hjt, if_true] at hk'
          have := hbw.lt j r' hj k hk'
          omega
        · simp only [show ¬ j < bs.length by omega, if_false] at hk'
          omega
  · intro i r' hi hm k hk
    rcases Nat.lt_or_ge i bs.length with hlt | hge
    · rw [List.getElem?_append_left hlt] at hi
      simp only [hlt, if_true] at hk
      exact .inr ⟨i, r', hi, hm, hk⟩
    · simp only [show ¬ i < bs.length by omega, if_false] at hk
      exact .inl (by omega)
end Go.Proofs.YtnncgbamppaacaaDoor
