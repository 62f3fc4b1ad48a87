/- The walk of body.Chunked. -/
import Derived.Test.YtjponbpdlioocaaBody2
import Derived.StillTailTactics
set_option linter.all false
namespace Go.Proofs.Ytjponbpdlioocaa
open Go.RowKit Wf
attribute [local go_sem] ex_list app_list get_list
/-- The length of the string in a cell. -/
def cellLen (w : World) (b : Nat) : Nat := sLen ((w.cell? ⟨b, 0, none⟩).getD undef)
theorem cellLen_of {w : World} {b : Nat} {r : Bytes} {x : Value} {T : TypeId} (h : w.heap[b]? = some (.cells #[(Value.string ⟨List.toArray (r)⟩), x] T (0, 0))) : cellLen w b = r.length := by
  unfold cellLen; rw [Lib.cell_of_heap h 0]; rfl

set_option maxRecDepth 100000 in
set_option maxHeartbeats 2000000 in
theorem body_Chunked (s : Bytes) (most : Int) (w : World) (hs : s.length ≤ 4000000) (h1 : -9223372036854775808 ≤ most) (h2 : most ≤ 9223372036854775807) :
    Calls Try.prog 7 #[(Value.string ⟨List.toArray (s)⟩), .int .i64 most] w fun e w' => e = .returned (.tuple #[(Value.string ⟨List.toArray ((chunked s most).1)⟩), .int .i64 (chunked s most).2]) ∧ Below w.heap.size w w' := by
  go_enter Try.func7, Try.ntmps7
  go_wp2_with fail
  go_step3
  go_wp2_with fail
  go_step3
  go_wp2_with fail
  go_loopw [] (fun wr => ∃ (f : Nat) (acc r : Bytes) (old : Nat), r.length < f ∧ r.length + acc.length ≤ s.length ∧ (0 ≤ most → (acc.length : Int) ≤ most) ∧ old ≤ 4611686018427387904 ∧ Bld w.heap.size acc wr ∧ wr.heap[w.heap.size + 1]? = some (.cells #[(Value.string ⟨List.toArray (r)⟩), .int .u64 old] 38 (0, 0)) ∧ Below w.heap.size w wr ∧ chunkGo most f acc r old = chunked s most) (fun wr => cellLen wr (w.heap.size + 1))
  case atStart =>
    refine ⟨s.length + 1, [], s, 0, by omega, by simp, by simp, by omega, ?_, ?_, ((Below.refl _ _).alloc (Nat.le_refl _) _).alloc (by simp) _, rfl⟩
    · exact (Bld.fresh w).alloc _
    · have := heap_new (w.alloc (.cells #[.pointer none, .slice none 0 0] 34)) (.cells #[(Value.string ⟨List.toArray (s)⟩), .int .u64 0] 38)
      rw [size_alloc] at this
      exact this
  case round =>
    obtain ⟨f, acc, r, old, hf, hra, hm, ho, hb, hc, hw, heq⟩ := hrel
    have Hb := hid hb
    have Hc := hid hc
    have Hw := hid hw
    have Hcl := hid (cellLen_of hc)
    cases f with
    | zero => omega
    | succ f =>
    have hsl := sizes_len r old
    have hsk := sizes_ok (r := r) (old := old)
    have hsb := sizes_bound r old ho
    rw [chunkGo] at heq
    have hsz := chunks_sizes (w.heap.size + 1) r old wr (by omega) hc
    generalize sizes r old = S at hsl hsk hsb heq hsz
    obtain ⟨e, n, r2⟩ := S
    simp only at hsl hsk hsb heq hsz
    have Heq := hid heq
    have Hsz := hid hsz
    clear hb hc hw heq hsz
    by_cases he : e = 0
    · have Hsk := hid (hsk he)
      clear hsk
      subst he
      go_wp2_with fail
      refine Hsz.out.mono ?_
      rintro e w2 ⟨rfl, hc2, hf2⟩
      have hb2 : Bld w.heap.size acc w2 := Hb.out.fr hf2 Hc.out (by decide) (by omega)
      have hw2 := Hw.out.trans (hf2.below (B := w.heap.size) (fun k hk => by omega) (Nat.le_of_lt Hb.out.lt))
      have hn2 := Lib.cell_of_heap hc2 1
      have hr2 := Lib.cell_of_heap hc2 0
      have hz2 := Lib.frozen_of_heap hc2 0
      have Hb2 := hid hb2
      have Hw2 := hid hw2
      have Hc2 := hid hc2
      have Hf2 := hid hf2
      clear hb2 hw2 hc2 hf2
      by_cases hneg : most < 0
      · have Hq := hid ((if_pos (Or.inl hneg)).symm.trans Heq.out)
        go_wp2_with fail
        go_quiet (fail)
        go_wp2_with fail
        rw [Exit.noGoto_ret]
        go_ret2
        rw [← Hq.out]
        exact ⟨rfl, below_drewN Hw2.out _⟩
      · have hm' := hm (by omega)
        have hs1 : IntKind.i64.wrap (most - (acc.length : Int)) = most - (acc.length : Int) := IntWalk.i64_in _ (by omega)
        have hs2 : IntKind.u64.wrap (most - (acc.length : Int)) = most - (acc.length : Int) := u64_in (by omega) (by omega)
        by_cases hbig : most - acc.length < n
        · have Hq := hid ((if_pos (Or.inr hbig)).symm.trans Heq.out)
          go_wp2_with fail
          go_quiet ((go_at_call 10; refine quiet_left (builder_Len _ acc _ (by exact Hb2.out))))
          clear hs1 hs2
          go_wp2_with fail
          rw [Exit.noGoto_ret]
          go_ret2
          rw [← Hq.out]
          exact ⟨rfl, below_drewN Hw2.out _⟩
        · have Hq := hid ((if_neg (show ¬ (most < 0 ∨ most - acc.length < n) by omega)).symm.trans Heq.out)
          have hbg : decide (most - (acc.length : Int) < (n : Int)) = false := decide_eq_false hbig
          by_cases hn0 : n = 0
          · have Hq2 := hid ((if_pos hn0).symm.trans Hq.out)
            have hn0' : ((n : Int) == 0) = true := by simp [hn0]
            go_wp2_with fail
            go_quiet ((go_at_call 10; refine quiet_left (builder_Len _ acc _ (by exact Hb2.out))))
            clear hs1 hs2
            subst hn0
            have Hb3 : Hid (Bld w.heap.size acc (w2.drewN nq)) := hid Hb2.out
            have Hw3 : Hid (Below w.heap.size w (w2.drewN nq)) := hid (below_drewN Hw2.out _)
            have Hc3 : Hid ((w2.drewN nq).heap[w.heap.size + 1]? = some (.cells #[(Value.string ⟨List.toArray (r2)⟩), .int .u64 ((0 : Nat) : Int)] 38 (0, 0))) := hid Hc2.out
            clear Hb Hc Hw Hcl Heq Hsz hn2 hr2 hz2 Hb2 Hw2 Hc2 Hf2 hm ho Hq hsb Hsk hbg hn0'
            have hbg0 : decide (most - (acc.length : Int) < 0) = false := decide_eq_false (by omega)
            generalize w2.drewN nq = w3 at Hb3 Hw3 Hc3 ⊢
            have hn3 := Lib.cell_of_heap Hc3.out 1
            have hr3 := Lib.cell_of_heap Hc3.out 0
            have hng0 : decide (most < 0) = false := decide_eq_false (by omega)
            go_wp2_with fail
            clear hn3 hr3
            simp only [hbg0, hng0, Bool.or_self]
            go_loopw [] (fun wq => ∃ (g : Nat) (q : Bytes), q.length < g ∧ q.length ≤ r2.length ∧ Bld w.heap.size acc wq ∧ wq.heap[w.heap.size + 1]? = some (.cells #[(Value.string ⟨List.toArray (q)⟩), .int .u64 ((0 : Nat) : Int)] 38 (0, 0)) ∧ Below w.heap.size w wq ∧ trailerGo g q = trailerGo (r2.length + 1) r2) (fun wq => cellLen wq (w.heap.size + 1))
            case atStart => exact ⟨r2.length + 1, r2, by omega, by omega, Hb3.out, Hc3.out, Hw3.out, rfl⟩
            case round =>
              obtain ⟨g, q, hg, hq, hb, hc, hw, htr⟩ := hrel
              have Hb4 := hid hb
              have Hc4 := hid hc
              have Hw4 := hid hw
              have Hcl := hid (cellLen_of hc)
              cases g with
              | zero => omega
              | succ g =>
              rw [trailerGo] at htr
              have hln := chunks_line (w.heap.size + 1) q (0 : Nat) wr (by omega) hc
              have hnk := newline_ok (r := q.drop (pre isNL q))
              have hple := pre_le isNL q
              have htl : (q.take (pre isNL q)).length = pre isNL q := by simp; omega
              simp only [List.length_drop] at hnk
              generalize newline (q.drop (pre isNL q)) = E at hln hnk htr
              generalize q.take (pre isNL q) = tk at hln htr htl
              obtain ⟨e, q2⟩ := E
              simp only at hln hnk htr
              have Hln := hid hln
              have Htr := hid htr
              clear hb hc hw hln htr
              by_cases he : e = 0
              · have hnk' := hnk he
                clear hnk
                subst he
                by_cases htk : tk = []
                · have htk' : tk.isEmpty = true := by simp [htk]
                  have Htr2 := hid ((if_pos htk).symm.trans ((if_neg (show ¬ ((0 : Int) ≠ 0) by simp)).symm.trans Htr.out))
                  go_wp2_with fail
                  refine Hln.out.mono ?_
                  rintro e w2 ⟨rfl, hc2, hf2⟩
                  have Hc2 := hid hc2
                  have Hf2 := hid hf2
                  have Hb5 := hid (Hb4.out.fr hf2 Hc4.out (by decide) (by omega))
                  have Hw5 := hid (Hw4.out.trans (hf2.below (B := w.heap.size) (fun k hk => by omega) (Nat.le_of_lt Hb4.out.lt)))
                  clear hc2 hf2
                  go_wp2_with (go_at_call 14; refine (builder_String _ acc _ Hb5.out).mono ?_; rintro e w6 ⟨rfl, hb6, hw6, ho6⟩)
                  rw [Exit.noGoto_ret]
                  go_ret2
                  have hq := Hq2.out
                  rw [← Htr2.out, if_neg (by simp)] at hq
                  rw [← hq]
                  exact ⟨rfl, Hw5.out.trans hw6⟩
                · have htk' : tk.isEmpty = false := by simp [htk]
                  have Htr2 := hid ((if_neg htk).symm.trans ((if_neg (show ¬ ((0 : Int) ≠ 0) by simp)).symm.trans Htr.out))
                  go_wp2_with fail
                  refine Hln.out.mono ?_
                  rintro e w2 ⟨rfl, hc2, hf2⟩
                  have Hc2 := hid hc2
                  have Hb5 := hid (Hb4.out.fr hf2 Hc4.out (by decide) (by omega))
                  have Hw5 := hid (Hw4.out.trans (hf2.below (B := w.heap.size) (fun k hk => by omega) (Nat.le_of_lt Hb4.out.lt)))
                  clear hc2 hf2
                  go_wp2_with fail
                  refine ⟨⟨g, q2, by omega, by omega, Hb5.out, Hc2.out, Hw5.out, Htr2.out⟩, ?_⟩
                  rw [cellLen_of Hc2.out, Hcl.out]
                  omega
              · have he2 : (e != 0) = true := by simp [he]
                go_wp2_with fail
                refine Hln.out.mono ?_
                rintro e w2 ⟨rfl, hc2, hf2⟩
                have Htr2 := hid ((if_pos he).symm.trans Htr.out)
                go_wp2_with fail
                rw [Exit.noGoto_ret]
                go_ret2
                have hq := Hq2.out
                rw [← Htr2.out, if_pos he] at hq
                rw [← hq]
                exact ⟨rfl, Hw4.out.trans (hf2.below (B := w.heap.size) (fun k hk => by omega) (Nat.le_of_lt Hb4.out.lt))⟩
          · have Hq2 := hid ((if_neg hn0).symm.trans Hq.out)
            have hn0' : ((n : Int) == 0) = false := by simp [hn0]
            clear Heq Hq
            go_wp2_with fail
            go_quiet ((go_at_call 10; refine quiet_left (builder_Len _ acc _ (by exact Hb2.out))))
            clear hs1 hs2
            have Hb3 : Hid (Bld w.heap.size acc (w2.drewN nq)) := hid Hb2.out
            have Hw3 : Hid (Below w.heap.size w (w2.drewN nq)) := hid (below_drewN Hw2.out _)
            have Hc3 : Hid ((w2.drewN nq).heap[w.heap.size + 1]? = some (.cells #[(Value.string ⟨List.toArray (r2)⟩), .int .u64 (n : Int)] 38 (0, 0))) := hid Hc2.out
            clear Hb Hc Hw Hsz hn2 hr2 hz2 Hb2 Hw2 Hc2 Hf2 hm ho hbg
            generalize w2.drewN nq = w3 at Hb3 Hw3 Hc3 ⊢
            have hn3 := Lib.cell_of_heap Hc3.out 1
            have hr3 := Lib.cell_of_heap Hc3.out 0
            have hz3 := Lib.frozen_of_heap Hc3.out 0
            have hs3 : IntKind.u64.wrap (r2.length : Int) = (r2.length : Int) := u64_in (by omega) (by omega)
            by_cases hsh : r2.length < n
            · have Hq3 := hid ((if_pos hsh).symm.trans Hq2.out)
              go_wp2_with fail
              go_quiet (fail)
              clear hs3
              go_wp2_with fail
              rw [Exit.noGoto_ret]
              go_ret2
              rw [← Hq3.out]
              exact ⟨rfl, below_drewN Hw3.out _⟩
            · have Hq3 := hid ((if_neg hsh).symm.trans Hq2.out)
              have hsh' : decide ((r2.length : Int) < (n : Int)) = false := decide_eq_false (by omega)
              go_wp2_with fail
              go_quiet (fail)
              clear hs3
              go_wp2_with fail
              have hr4 : (w3.drewN nq).cell? ⟨w.heap.size + 1, 0, none⟩ = some (Value.string ⟨List.toArray (r2)⟩) := hr3
              have hn4 : (w3.drewN nq).cell? ⟨w.heap.size + 1, 1, none⟩ = some (.int .u64 n) := hn3
              have Hb4 : Hid (Bld w.heap.size acc (w3.drewN nq)) := hid Hb3.out
              have Hw4 : Hid (Below w.heap.size w (w3.drewN nq)) := hid (below_drewN Hw3.out _)
              have Hc4 : Hid ((w3.drewN nq).heap[w.heap.size + 1]? = some (.cells #[(Value.string ⟨List.toArray (r2)⟩), .int .u64 (n : Int)] 38 (0, 0))) := hid Hc3.out
              clear hr3 hn3 hz3
              have hle4 : n ≤ r2.length := by omega
              generalize w3.drewN nq = w4 at hr4 hn4 Hb4 Hw4 Hc4 ⊢
              go_still_tail 9, (by kernel_rfl)
              change wpList _ _ _ _ _ w4.drew
              have hb4 : Bld w.heap.size acc w4.drew := Hb4.out
              have hw4 : Below w.heap.size w w4.drew := Hw4.out.drew
              have hc4 : w4.drew.heap[w.heap.size + 1]? = some (.cells #[(Value.string ⟨List.toArray (r2)⟩), .int .u64 (n : Int)] 38 (0, 0)) := Hc4.out
              have Hb5 := hid hb4
              have Hw5 := hid hw4
              have Hc5 := hid hc4
              clear hr4 hn4 Hb4 Hw4 Hc4 hb4 hw4 hc4
              generalize w4.drew = w5 at Hb5 Hw5 Hc5 ⊢
              go_wp2_with (go_at_call 11; refine (builder_WriteString _ acc (r2.take n) _ (by exact Hb5.out) (by simp; omega)).mono ?_; rintro e w6 ⟨rfl, hb6, hw6, ho6⟩)
              have hc6 := Fr.kept ho6 Hc5.out (by omega) (by decide)
              have hr6 := Lib.cell_of_heap hc6 0
              have hn6 := Lib.cell_of_heap hc6 1
              have hz6 := Lib.frozen_of_heap hc6 0
              have Hb6 := hid hb6
              have Hw6 := hid (Hw5.out.trans hw6)
              have Hc6 := hid hc6
              clear Hb5 Hw5 Hc5 hb6 hw6 ho6 hc6
              go_still_tail 12, (by kernel_rfl)
              change wpList _ _ _ _ _ w6.drew
              go_wp2_with fail
              have hnl := chunks_newline (w.heap.size + 1) (r2.drop n) n (w6.setCell ⟨w.heap.size + 1, 0, none⟩ (Value.string ⟨List.toArray (r2.drop n)⟩)).drew (by simp; omega) (by exact heap_set Hc6.out _)
              have hnk := newline_le (r2.drop n)
              simp only [List.length_drop] at hnk
              have hq4 := Hq3.out
              clear Hq2 Hq3 hr6 hn6 hz6
              generalize newline (r2.drop n) = E at hnl hnk hq4
              obtain ⟨e2, q2⟩ := E
              simp only at hnl hnk hq4
              have Hnl := hid hnl
              have Hq4 := hid hq4
              clear hnl hq4
              have Hw7 : Hid (Below w.heap.size w (w6.setCell ⟨w.heap.size + 1, 0, none⟩ (Value.string ⟨List.toArray (r2.drop n)⟩)).drew) := hid ((Hw6.out.setCell (p := ⟨w.heap.size + 1, 0, none⟩) (by simp) _).drew)
              have Hb7 : Hid (Bld w.heap.size (acc ++ r2.take n) (w6.setCell ⟨w.heap.size + 1, 0, none⟩ (Value.string ⟨List.toArray (r2.drop n)⟩)).drew) := hid (Hb6.out.fr (Fr.set1 _ _).drew Hc6.out (by decide) (by omega))
              have Hc7 : Hid ((w6.setCell ⟨w.heap.size + 1, 0, none⟩ (Value.string ⟨List.toArray (r2.drop n)⟩)).drew.heap[w.heap.size + 1]? = some (.cells #[(Value.string ⟨List.toArray (r2.drop n)⟩), .int .u64 (n : Int)] 38 (0, 0))) := hid (heap_set Hc6.out _)
              clear Hb6 Hw6 Hc6
              have hml : (r2.take n).length = n := by simp; omega
              have Hml := hid hml
              clear hml
              generalize (w6.setCell ⟨w.heap.size + 1, 0, none⟩ (Value.string ⟨List.toArray (r2.drop n)⟩)).drew = w7 at Hnl Hw7 Hb7 Hc7 ⊢
              refine Hnl.out.mono ?_
              rintro e w8 ⟨rfl, hc8, hf8⟩
              have Hc8 := hid hc8
              have Hw8 := hid (Hw7.out.trans (hf8.below (B := w.heap.size) (fun k hk => by omega) (Nat.le_of_lt Hb7.out.lt)))
              have Hb8 := hid (Hb7.out.fr hf8 Hc7.out (by decide) (by omega))
              clear hc8 hf8 Hb7 Hw7 Hc7
              by_cases hee : e2 = 0
              · have Hq5 := hid ((if_neg (show ¬ (e2 ≠ 0) by simp [hee])).symm.trans Hq4.out)
                have he2 : (e2 != 0) = false := by simp [hee]
                clear hee Hq4
                go_wp2_with fail
                have hsk2 := Hsk.out
                refine ⟨⟨f, acc ++ r2.take n, q2, n, by omega, by simp; omega, fun _ => by simp only [List.length_append, Hml.out]; omega, by omega, Hb8.out, Hc8.out, Hw8.out, Hq5.out⟩, ?_⟩
                rw [cellLen_of Hc8.out, Hcl.out]
                omega
              · have Hq5 := hid ((if_pos (show e2 ≠ 0 from hee)).symm.trans Hq4.out)
                have he2 : (e2 != 0) = true := by simp [hee]
                clear hee Hq4
                go_wp2_with fail
                rw [Exit.noGoto_ret]
                go_ret2
                rw [← Hq5.out]
                exact ⟨rfl, Hw8.out⟩
    · have he2 : (e != 0) = true := by simp [he]
      clear hsk
      go_wp2_with fail
      refine Hsz.out.mono ?_
      rintro e w2 ⟨rfl, hc2, hf2⟩
      go_wp2_with fail
      rw [Exit.noGoto_ret]
      go_ret2
      rw [if_pos he] at Heq
      rw [← Heq.out]
      exact ⟨rfl, Hw.out.trans (hf2.below (B := w.heap.size) (fun k hk => by omega) (Nat.le_of_lt Hb.out.lt))⟩
end Go.Proofs.Ytjponbpdlioocaa
