/- strings.IndexRune at a rune that is no ASCII, in an ASCII string; strings.IndexAny at an ASCII set. -/
import Derived.Test.YtjponbpdlioocaaBase
import Derived.Test.YtjponbpdlioocaaShelf
import Derived.Lib.OthersKept
import Derived.Deep.QuietTactic
import Derived.BigQuiet
set_option linter.all false
namespace Go.Proofs.Ytjponbpdlioocaa
open Go.RowKit Wf
attribute [local go_sem] ex_list app_list get_list

theorem encode_high (r : Int) (h1 : 128 ≤ r) (h4 : Lib.validRune r = true) : ∃ el : Bytes, Utf8.encode r = ⟨List.toArray el⟩ ∧ 2 ≤ el.length ∧ el.length ≤ 4 ∧ ∀ h : el.length - 1 < el.length, 128 ≤ el[el.length - 1].toNat := by
  have hv : Utf8.valid r = true := by
    unfold Lib.validRune at h4
    have := of_decide_eq_true h4
    unfold Utf8.valid
    simp
    omega
  obtain ⟨n, rfl⟩ := Int.eq_ofNat_of_zero_le (show 0 ≤ r by omega)
  have hn : 128 ≤ n := by omega
  have key : ∀ m : Nat, 128 ≤ (UInt8.ofNat (0x80 + m % 64)).toNat := by
    intro m
    rw [UInt8.toNat_ofNat']
    omega
  unfold Utf8.encode
  rw [if_pos hv]
  simp only [Int.toNat_natCast]
  rw [if_neg (show ¬ n < 128 by omega)]
  split
  · exact ⟨_, rfl, by simp, by simp, fun _ => key _⟩
  · split
    · exact ⟨_, rfl, by simp, by simp, fun _ => key _⟩
    · exact ⟨_, rfl, by simp, by simp, fun _ => key _⟩

theorem indexByte_no (l : Bytes) (c : UInt8) (h : ∀ b ∈ l, b ≠ c) : Lib.indexByte l c = -1 := by
  induction l with
  | nil => rfl
  | cons b l ih =>
    have h1 := h b (by simp)
    have h2 := ih fun x hx => h x (by simp [hx])
    simp [Lib.indexByte, h1, h2]

set_option maxRecDepth 100000 in
set_option maxHeartbeats 400000 in
theorem indexRune_err (l : Bytes) (w : World) (ha : ∀ i (h : i < l.length), l[i].toNat < 128) (hl : l.length ≤ 1000000) :
    Calls Try.prog 27 #[(Value.string ⟨List.toArray (l)⟩), .int .i32 65533] w fun e w' => e = .returned (.int .i64 (-1)) ∧ Below w.heap.size w w' := by
  go_enter Try.func27, Try.ntmps27
  have Ha := hid ha
  clear ha
  go_wp2_with fail
  go_loopw [] (fun wr => ∃ i : Nat, i ≤ l.length ∧ wr = w.iter ⟨List.toArray l⟩ i) (fun wr => l.length - wr.iterPos w.heap.size)
  case atStart => exact ⟨0, by omega, rfl⟩
  case round =>
    obtain ⟨i, hi, rfl⟩ := hrel
    by_cases hlt : i < l.length
    · have hnx := fun ty => run_next_ascii (P := Try.prog) w ⟨List.toArray l⟩ i ty hlt (Ha.out i hlt)
      have hb := Ha.out i hlt
      have hx : ((l[i].toNat : Int) == 65533) = false := beq_eq_false_iff_ne.2 (by omega)
      simp only [get_list] at hnx
      go_wp2_with fail
      go_roundw
      case rel => exact ⟨i + 1, by omega, rfl⟩
      case measure => simp; omega
    · have hnx := run_next_end (P := Try.prog) w ⟨List.toArray l⟩ i
      have hsz : l.length ≤ i := by omega
      go_wp2_with fail
      go_ret
      exact ⟨rfl, (Below.refl _ _).alloc (Nat.le_refl _) _⟩
set_option maxRecDepth 100000 in
set_option maxHeartbeats 400000 in
theorem indexRune_bad (l : Bytes) (r : Int) (w : World) (h1 : 128 ≤ r) (h2 : r ≤ 2147483647) (h3 : (r == 65533) = false) (h4 : Lib.validRune r = false) :
    Calls Try.prog 27 #[(Value.string ⟨List.toArray (l)⟩), .int .i32 r] w fun e w' => e = .returned (.int .i64 (-1)) ∧ Below w.heap.size w w' := by
  have h5 := hid h4
  go_enter Try.func27, Try.ntmps27
  go_wp2_with (go_at_call 33; refine (Try.utf8_ValidRune _ _).mono ?_; rintro e w' ⟨rfl, rfl⟩)
  go_ret
  exact ⟨rfl, Below.refl _ _⟩
set_option maxRecDepth 100000 in
set_option maxHeartbeats 400000 in
theorem indexRune_high (l : Bytes) (r : Int) (w : World) (ha : ∀ i (h : i < l.length), l[i].toNat < 128) (hl : l.length ≤ 1000000) (h1 : 128 ≤ r) (h2 : r ≤ 2147483647) (h3 : (r == 65533) = false) (h4 : Lib.validRune r = true) :
    Calls Try.prog 27 #[(Value.string ⟨List.toArray (l)⟩), .int .i32 r] w fun e w' => e = .returned (.int .i64 (-1)) ∧ Below w.heap.size w w' := by
  have Ha := hid ha
  clear ha
  go_enter Try.func27, Try.ntmps27
  go_wp2_with (go_at_call 33; refine (Try.utf8_ValidRune _ _).mono ?_; rintro e w' ⟨rfl, rfl⟩)
  go_step3
  go_wp2_with fail
  obtain ⟨el, hel, he1, he2, he3⟩ := encode_high r h1 h4
  have He3 := hid he3
  clear he3
  rw [hel]
  have hx : wrap64 ((ByteArray.size ⟨List.toArray el⟩ : Int) - 1) = ((el.length - 1 : Nat) : Int) := by
    have : ByteArray.size ⟨List.toArray el⟩ = el.length := rfl
    rw [this, IntWalk.wrap64_in _ ⟨by omega, by omega⟩]
    omega
  rw [hx]
  clear hel hx h1 h2 h3 h4
  refine wp_loop_once ?_
  by_cases hlt : el.length - 1 < l.length
  · have hle : el.length - 1 < el.length := by omega
    have hbt := Ha.out _ hlt
    have hc := He3.out (by omega)
    have hne : ((l[el.length - 1].toNat : Int) != (el[el.length - 1].toNat : Int)) = true := by rw [bne_iff_ne]; omega
    have hno := indexByte_no (l.drop (el.length - 1 + 1)) el[el.length - 1] (fun b hb hx => by
      obtain ⟨j, hj, rfl⟩ := List.mem_iff_getElem.1 hb
      rw [List.getElem_drop] at hx
      have h1 := Ha.out (el.length - 1 + 1 + j) (by simp at hj; omega)
      rw [hx] at h1
      omega)
    have Hno := hid hno
    clear hno
    go_wp2_with fail
    go_step3
    go_wp2_with fail
    go_quiet (fail)
    go_wp2_with fail
    have hb : Below w'.heap.size w' (w'.drewN nq) := below_drewN (Below.refl _ _) _
    generalize w'.drewN nq = w2 at hb ⊢
    have hs1 : IntKind.i64.wrap (((el.length - 1 : Nat) : Int) + 1) = ((el.length - 1 : Nat) : Int) + 1 := IntWalk.i64_in _ (by omega)
    have hs2 : (0 : Int) ≤ ((el.length - 1 : Nat) : Int) + 1 := by omega
    have hs3 : (((el.length - 1 : Nat) : Int) + 1).toNat = el.length - 1 + 1 := by omega
    have hs4 : ((el.length - 1 : Nat) : Int) + 1 ≤ (l.length : Int) := by omega
    go_quiet ((go_at_call 17; refine Calls.quiet_of_same (Try.strings_IndexByte _ _ _)))
    clear hs1 hs2 hs3 hs4
    rw [show ((el[el.length - 1].toNat : Int)).toNat.toUInt8 = el[el.length - 1] from by simp, Hno.out]
    go_wp2_with fail
    rw [Exit.noGoto_ret]
    go_wp2_with fail
    rw [Exit.noGoto_ret]
    go_ret
    exact ⟨rfl, below_drewN hb _⟩
  · go_wp2_with fail
    rw [Exit.noGoto_ret]
    go_ret
    exact ⟨rfl, Below.refl _ _⟩
theorem noAny_high (s : ByteArray) (set : Bytes) (i k : Nat) (hn : Lib.NoAny s.data.toList set i) (hset : ∀ j (h : j < set.length), set[j].toNat < 128) (hh : ∀ j, i ≤ j → j < i + k → ∀ h : j < s.size, 128 ≤ s[j].toNat) : Lib.NoAny s.data.toList set (i + k) := by
  intro j b hj hb
  by_cases hji : j < i
  · exact hn j b hji hb
  · obtain ⟨hjs, rfl⟩ := List.getElem?_eq_some_iff.1 hb
    have hs : j < s.size := by rw [Lib.size_eq]; exact hjs
    have h1 : 128 ≤ (s.data.toList[j]).toNat := hh j (by omega) hj hs
    rw [Bool.eq_false_iff]
    intro hc
    have hmem := List.contains_iff_mem.1 hc
    obtain ⟨q, hq, he⟩ := List.mem_iff_getElem.1 hmem
    have h2 := hset q hq
    rw [he] at h2
    omega
theorem get_bang (s : ByteArray) (j : Nat) (h : j < s.size) : (s.get! j).toNat = s[j].toNat := by
  have := get_at s j h
  rw [Nat.add_zero] at this
  rw [this]
theorem cont_high (s : ByteArray) (j : Nat) (h : (decide (j < s.size) && (s.get! j).toNat / 64 == 2) = true) : j < s.size ∧ ∀ h : j < s.size, 128 ≤ s[j].toNat := by
  simp only [Bool.and_eq_true, decide_eq_true_eq, beq_iff_eq] at h
  refine ⟨h.1, fun hj => ?_⟩
  have := h.2
  rw [get_bang s j hj] at this
  omega
def Span (s : ByteArray) (i : Nat) (p : Nat × Nat) : Prop := i + p.2 ≤ s.size ∧ ∀ j, i ≤ j → j < i + p.2 → ∀ h : j < s.size, 128 ≤ s[j].toNat
theorem decode_span (s : ByteArray) (i : Nat) (h : i < s.size) (hx : 128 ≤ s[i].toNat) : Span s i (Utf8.decode s i) := by
  have one : ∀ e, Span s i (e, 1) := fun e => ⟨by dsimp only; omega, fun j h1 h2 h3 => by
    dsimp only at h2
    obtain rfl : j = i := by omega
    exact hx⟩
  unfold Utf8.decode
  dsimp only
  split
  · exact one _
  split
  · rename_i hc
    simp only [Bool.and_eq_true] at hc
    have c1 := cont_high s (i + 1) (by simpa using hc.2)
    split
    · refine ⟨by dsimp only; omega, fun j h1 h2 h3 => ?_⟩
      dsimp only at h2
      rcases Nat.lt_or_ge j (i + 1) with h' | h'
      · exact (one 0).2 j h1 h' h3
      · obtain rfl : j = i + 1 := by omega
        exact c1.2 h3
    · exact one _
  · split
    · rename_i hc
      simp only [Bool.and_eq_true] at hc
      have c1 := cont_high s (i + 1) (by simpa using hc.1.2)
      have c2 := cont_high s (i + 2) (by simpa using hc.2)
      split
      · refine ⟨by dsimp only; omega, fun j h1 h2 h3 => ?_⟩
        dsimp only at h2
        rcases Nat.lt_or_ge j (i + 1) with h' | h'
        · exact (one 0).2 j h1 h' h3
        · rcases Nat.lt_or_ge j (i + 2) with h'' | h''
          · obtain rfl : j = i + 1 := by omega
            exact c1.2 h3
          · obtain rfl : j = i + 2 := by omega
            exact c2.2 h3
      · exact one _
    · split
      · rename_i hc
        simp only [Bool.and_eq_true] at hc
        have c1 := cont_high s (i + 1) (by simpa using hc.1.1.2)
        have c2 := cont_high s (i + 2) (by simpa using hc.1.2)
        have c3 := cont_high s (i + 3) (by simpa using hc.2)
        split
        · refine ⟨by dsimp only; omega, fun j h1 h2 h3 => ?_⟩
          dsimp only at h2
          rcases Nat.lt_or_ge j (i + 1) with h' | h'
          · exact (one 0).2 j h1 h' h3
          · rcases Nat.lt_or_ge j (i + 2) with h'' | h''
            · obtain rfl : j = i + 1 := by omega
              exact c1.2 h3
            · rcases Nat.lt_or_ge j (i + 3) with h4 | h4
              · obtain rfl : j = i + 2 := by omega
                exact c2.2 h3
              · obtain rfl : j = i + 3 := by omega
                exact c3.2 h3
        · exact one _
      · exact one _
theorem indexRune_any (l : Bytes) (r : Int) (w : World) (ha : ∀ i (h : i < l.length), l[i].toNat < 128) (hl : l.length ≤ 1000000) (h1 : 128 ≤ r) (h2 : r ≤ 2147483647) :
    Calls Try.prog 27 #[(Value.string ⟨List.toArray (l)⟩), .int .i32 r] w fun e w' => e = .returned (.int .i64 (-1)) ∧ Below w.heap.size w w' := by
  by_cases h3 : r = 65533
  · subst h3
    exact indexRune_err l w ha hl
  · cases h4 : Lib.validRune r
    · exact indexRune_bad l r w h1 h2 (beq_eq_false_iff_ne.2 h3) h4
    · exact indexRune_high l r w ha hl h1 h2 (beq_eq_false_iff_ne.2 h3) h4

theorem iterPos_at {w : World} {k : Nat} {s : ByteArray} {p : Nat} (h : w.heap[k]? = some (.stringIter s p)) : w.iterPos k = p := by unfold World.iterPos; rw [h]

set_option maxRecDepth 100000 in
set_option maxHeartbeats 400000 in
theorem indexAny_short (s l : Bytes) (w : World) (ha : ∀ i (h : i < l.length), l[i].toNat < 128) (hl : l.length ≤ 1000000) (h2 : 2 ≤ l.length) (h8 : s.length ≤ 8) :
    Calls Try.prog 21 #[(Value.string ⟨List.toArray (s)⟩), (Value.string ⟨List.toArray (l)⟩)] w fun e w' => e = .returned (.int .i64 (Lib.indexAny s l)) ∧ Below w.heap.size w w' := by
  have Ha := hid ha
  clear ha
  have hemp : l.isEmpty = false := by cases l <;> simp at h2 ⊢
  have hn1 : ((l.length : Int) == 1) = false := beq_eq_false_iff_ne.2 (by omega)
  have h8z : decide ((8 : Int) < (s.length : Int)) = false := decide_eq_false (by omega)
  go_enter Try.func21, Try.ntmps21
  go_wp2_with (go_at_call 28; refine (Try.strings_shouldUseASCIISet _ _).mono ?_; rintro e w' ⟨rfl, hw⟩; rw [hw, h8z])
  go_loopw [] (fun wr => ∃ i : Nat, i ≤ s.length ∧ wr.heap[w.heap.size]? = some (.stringIter ⟨List.toArray s⟩ i) ∧ Below w.heap.size w wr ∧ Lib.NoAny s l i) (fun wr => s.length - wr.iterPos w.heap.size)
  case atStart => exact ⟨0, by omega, World.iter_heap _ _ _, (Below.refl _ _).alloc (Nat.le_refl _) _, Lib.NoAny.zero _ _⟩
  case round =>
    obtain ⟨i, hi, hit, hbl, hno⟩ := hrel
    have Hit := hid hit
    have Hbl := hid hbl
    have Hno := hid hno
    clear hit hbl hno
    have hpos : wr.iterPos w.heap.size = i := by unfold World.iterPos; rw [Hit.out]
    have Hpos := hid hpos
    clear hpos
    have hlt0 : w.heap.size < wr.heap.size := (Array.getElem?_eq_some_iff.1 Hit.out).1
    by_cases hlt : i < s.length
    · by_cases hx : s[i].toNat < 128
      · have hnx := fun ty => Lib.run_next_ascii_at (P := Try.prog) wr w.heap.size ⟨List.toArray s⟩ i ty Hit.out hlt hx
        simp only [get_list] at hnx
        have hcon := Lib.contains_iff_indexByte l s[i]
        have hback : ((s[i].toNat : Int)).toNat.toUInt8 = s[i] := by simp
        cases hin : l.contains s[i]
        · rw [hin] at hcon
          have hneg : ¬ ((0 : Int) ≤ Lib.indexByte l s[i]) := of_decide_eq_false hcon.symm
          clear hcon
          go_wp2_with (go_at_call 27; refine (Try.strings_IndexRune_ascii _ _ _ (by omega) (by omega)).mono ?_; rintro e w' ⟨rfl, hw⟩; rw [hw, hback])
          have hk := Lib.iterAt_heap wr w.heap.size ⟨List.toArray s⟩ i (i + 1) Hit.out
          have hxl : (⟨List.toArray s⟩ : ByteArray).data.toList[i]? = some s[i] := List.getElem?_eq_getElem hlt
          refine ⟨⟨i + 1, by omega, hk, Lib.below_iterAt Hbl.out (Nat.le_refl _) _ _, Hno.out.succ hxl hin⟩, ?_⟩
          rw [iterPos_at hk, Hpos.out]; omega
        · rw [hin] at hcon
          have hge : ((0 : Int) ≤ Lib.indexByte l s[i]) := of_decide_eq_true hcon.symm
          clear hcon
          go_wp2_with (go_at_call 27; refine (Try.strings_IndexRune_ascii _ _ _ (by omega) (by omega)).mono ?_; rintro e w' ⟨rfl, hw⟩; rw [hw, hback])
          have hxl : s[i]? = some s[i] := List.getElem?_eq_getElem hlt
          go_ret
          exact ⟨ret_int (by rw [Lib.indexAny_hit Hno.out hxl hin]), Lib.below_iterAt Hbl.out (Nat.le_refl _) _ _⟩
      · have hnx := fun ty => Lib.run_next_any_at (P := Try.prog) wr w.heap.size ⟨List.toArray s⟩ i ty Hit.out hlt
        have hd := decode_high ⟨List.toArray s⟩ i hlt (by simp only [get_list]; omega)
        have hd2 := decode_le ⟨List.toArray s⟩ i
        go_wp2_with (go_at_call 27; refine (indexRune_any l _ _ Ha.out hl (by omega) (by omega)).mono ?_; rintro e w' ⟨rfl, hw⟩)
        have hsp := decode_span ⟨List.toArray s⟩ i hlt (by simp only [get_list]; omega)
        have hk := Lib.iterAt_heap wr w.heap.size ⟨List.toArray s⟩ i (i + (Utf8.decode ⟨List.toArray s⟩ i).2) Hit.out
        have hk2 := (hw.block w.heap.size (by rw [Lib.iterAt_size]; exact hlt0)).trans hk
        have hle : i + (Utf8.decode ⟨List.toArray s⟩ i).2 ≤ s.length := hsp.1
        refine ⟨⟨_, hle, hk2, (Lib.below_iterAt Hbl.out (Nat.le_refl _) _ _).trans (hw.mono (by rw [Lib.iterAt_size]; omega)), noAny_high ⟨List.toArray s⟩ l i _ Hno.out Ha.out hsp.2⟩, ?_⟩
        rw [iterPos_at hk2, Hpos.out]; omega
    · have hnx := fun ty => Lib.run_next_end_at (P := Try.prog) wr w.heap.size ⟨List.toArray s⟩ i ty Hit.out hlt
      go_wp2_with fail
      go_ret
      exact ⟨ret_int (by rw [Lib.indexAny_none (by rw [show s.length = i by omega]; exact Hno.out)]), Hbl.out⟩

theorem strings_IndexAny (s l : Bytes) (w : World) (ha : ∀ i (h : i < l.length), l[i].toNat < 128) (hl : l.length ≤ 1000000) (h2 : 2 ≤ l.length) (hs : s.length < 4294967281) :
    Calls Try.prog 21 #[(Value.string ⟨List.toArray (s)⟩), (Value.string ⟨List.toArray (l)⟩)] w fun e w' => e = .returned (.int .i64 (Lib.indexAny s l)) ∧ Below w.heap.size w w' := by
  rcases Nat.lt_or_ge 8 s.length with h8 | h8
  · refine (Try.strings_IndexAny_long (fun _ => by kernel_rfl) ⟨List.toArray s⟩ ⟨List.toArray l⟩ w h2 h8 hs (show l.length < 4294967281 by omega) (fun j b hb => ?_)).mono ?_
    · obtain ⟨hj, rfl⟩ := List.getElem?_eq_some_iff.1 hb
      exact ha j hj
    · rintro e w' ⟨rfl, rfl⟩
      exact ⟨rfl, ((Below.refl _ _).alloc (Nat.le_refl _) _).alloc (by simp) _⟩
  · exact indexAny_short s l w ha hl h2 h8
end Go.Proofs.Ytjponbpdlioocaa
