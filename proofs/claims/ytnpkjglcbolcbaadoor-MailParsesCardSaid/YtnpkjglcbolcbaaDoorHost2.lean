/- The walks of package host: ports, hosts with ports, texts. -/
import Derived.Test.YtnpkjglcbolcbaaDoorHost
import Derived.Lib.QuietBelow
import Derived.Deep.QuietTactic
import Derived.BigQuiet
set_option linter.all false
namespace Go.Proofs.YtnpkjglcbolcbaaDoor
open Go.RowKit Go.Sort Wf
attribute [local go_sem] ex_list app_list get_list

set_option maxHeartbeats 400000 in
theorem host_Port (s : Bytes) (w : World) (hs : s.length ≤ 9223372036854775807) :
    Calls Tryd.prog 102 #[(Value.string ⟨List.toArray (s)⟩)] w fun e w' => e = .returned (.tuple #[.int .i64 (portM s).1, .int .i64 (portM s).2]) ∧ w = w' := by
  have hle := numStrict_le 65535 s
  have hq : portM s = if (numStrict 65535 s).2 ≠ 0 ∨ (numStrict 65535 s).1 = 0 then (0, 51) else (((numStrict 65535 s).1 : Int), 0) := rfl
  have hc := number_Strict s 65535 w (by omega) (by omega)
  generalize numStrict 65535 s = np at hle hq hc
  obtain ⟨n, e⟩ := np
  simp only at hle hq hc
  have Hc := hid hc
  clear hc
  by_cases he : e = 0
  · subst he
    by_cases hn : n = 0
    · rw [if_pos (Or.inr hn)] at hq
      have Hq := hid hq
      have hx : ((n : Int) == 0) = true := by simp [hn]
      clear hq hn
      go_enter Tryd.func102, Tryd.ntmps102
      go_wp2_with fail
      refine Hc.out.mono ?_
      rintro e w' ⟨rfl, rfl⟩
      go_wp2_with fail
      go_ret2
      rw [Hq.out]
      exact ⟨rfl, rfl⟩
    · rw [if_neg (by simp [hn])] at hq
      have Hq := hid hq
      have hx : ((n : Int) == 0) = false := by simp [hn]
      clear hq hn
      go_enter Tryd.func102, Tryd.ntmps102
      go_wp2_with fail
      refine Hc.out.mono ?_
      rintro e w' ⟨rfl, rfl⟩
      go_wp2_with fail
      go_ret2
      rw [Hq.out]
      exact ⟨rfl, rfl⟩
  · rw [if_pos (Or.inl he)] at hq
    have Hq := hid hq
    have hx : (e != 0) = true := by simp [he]
    clear hq
    go_enter Tryd.func102, Tryd.ntmps102
    go_wp2_with fail
    refine Hc.out.mono ?_
    rintro e w' ⟨rfl, rfl⟩
    go_wp2_with fail
    go_ret2
    rw [Hq.out]
    exact ⟨rfl, rfl⟩
set_option maxHeartbeats 1000000 in
theorem host_Parse (s : Bytes) (w : World) (hE : Env w) (hs : s.length < 4294967281) :
    Calls Tryd.prog 54 #[(Value.string ⟨List.toArray (s)⟩)] w fun e w' => e = .returned (.tuple #[.agg #[(Value.string ⟨List.toArray ((hostPort s).1.1)⟩), .int .i64 (hostPort s).1.2], .int .i64 (hostPort s).2]) ∧ Below w.heap.size w w' := by
  have hcl := cutC_len 58 s
  have hct := fun w hE => s_Cut s 58 w hE hs
  have hq : hostPort s = hostPortOf (hostM (cutC 58 s).1) (cutC 58 s).2.2 (portM (cutC 58 s).2.1) := rfl
  generalize cutC 58 s = C at hcl hct hq
  obtain ⟨first, rest, colon⟩ := C
  simp only at hcl hct hq
  have hh := fun w hE => host_Host first w hE (by omega)
  have hp := fun w => host_Port rest w (by omega)
  generalize hostM first = H at hq hh
  generalize portM rest = P at hq hp
  obtain ⟨h, e⟩ := H
  obtain ⟨p, f⟩ := P
  simp only at hh hp
  have Hct := hid hct
  have Hh := hid hh
  have Hp := hid hp
  clear hct hh hp hcl
  have ha := heap_new w (.cells #[(Value.string ⟨List.toArray ([])⟩), .int .i64 0] 69)
  have hba : Below w.heap.size w (w.alloc (.cells #[(Value.string ⟨List.toArray ([])⟩), .int .i64 0] 69)) := (Below.refl _ _).alloc (Nat.le_refl _) _
  generalize hwa : w.alloc (.cells #[(Value.string ⟨List.toArray ([])⟩), .int .i64 0] 69) = wa at ha hba
  have Ha := hid ha
  have Hba := hid hba
  have Hwa := hid hwa
  clear ha hba hwa
  by_cases he : e = 0
  · subst he
    cases colon
    · have Hq := hid (show hostPort s = ((h, 0), 0) from hq)
      clear hq
      go_enter Tryd.func54, Tryd.ntmps54
      go_wp2_with fail
      rw [Hwa.out]
      refine (Hct.out _ (hE.below Hba.out)).mono ?_
      rintro e w1 ⟨rfl, n, hw1⟩
      have Hw1 : Hid (Below w.heap.size w w1) := hid (by rw [hw1]; exact below_drewN Hba.out _)
      have Ha1 : Hid (w1.heap[w.heap.size]? = some (.cells #[(Value.string ⟨List.toArray ([])⟩), .int .i64 0] 69 (0, 0))) := hid (by rw [hw1]; exact Ha.out)
      clear hw1
      go_wp2_with fail
      refine (Hh.out _ (hE.below Hw1.out)).mono ?_
      rintro e w2 ⟨rfl, hw2⟩
      have Ha2 := hid ((hw2.block _ (heap_lt Ha1.out)).trans Ha1.out)
      have Hw2 := hid (below_all Hw1.out hw2)
      clear hw2
      have hlt := heap_lt Ha2.out
      have c0 := Lib.cell_of_heap Ha2.out 0
      have c1 := Lib.cell_of_heap Ha2.out 1
      have z0 := Lib.frozen_of_heap Ha2.out 0
      have z1 := Lib.frozen_of_heap Ha2.out 1
      go_wp2_with fail
      refine bodyPost_ret (v := .tuple #[.agg #[(Value.string ⟨List.toArray (h)⟩), .int .i64 0], .int .i64 0]) (by simp [results, Tryd.results54, go_sem, c0, c1, hlt]) rfl ⟨?_, ?_⟩
      · rw [Hq.out]
      · repeat (first | exact Hw2.out | (refine Below.setCell (p := ⟨_, _, none⟩) ?_ (by simp <;> omega) _) | (refine Below.alloc ?_ (by simp <;> omega) _) | refine Below.drew ?_)
    · by_cases hf : f = 0
      · subst hf
        by_cases h443 : p = 443
        · have Hq := hid (show hostPort s = ((h, 0), 0) by rw [hq]; unfold hostPortOf; simp [h443])
          have hx : (p == 443) = true := by simp [h443]
          clear hq h443
          go_enter Tryd.func54, Tryd.ntmps54
          go_wp2_with fail
          rw [Hwa.out]
          refine (Hct.out _ (hE.below Hba.out)).mono ?_
          rintro e w1 ⟨rfl, n, hw1⟩
          have Hw1 : Hid (Below w.heap.size w w1) := hid (by rw [hw1]; exact below_drewN Hba.out _)
          have Ha1 : Hid (w1.heap[w.heap.size]? = some (.cells #[(Value.string ⟨List.toArray ([])⟩), .int .i64 0] 69 (0, 0))) := hid (by rw [hw1]; exact Ha.out)
          clear hw1
          go_wp2_with fail
          refine (Hh.out _ (hE.below Hw1.out)).mono ?_
          rintro e w2 ⟨rfl, hw2⟩
          have Ha2 := hid ((hw2.block _ (heap_lt Ha1.out)).trans Ha1.out)
          have Hw2 := hid (below_all Hw1.out hw2)
          clear hw2
          have hlt := heap_lt Ha2.out
          have c0 := Lib.cell_of_heap Ha2.out 0
          have c1 := Lib.cell_of_heap Ha2.out 1
          have z0 := Lib.frozen_of_heap Ha2.out 0
          have z1 := Lib.frozen_of_heap Ha2.out 1
          go_wp2_with (go_at_call 102; refine (Hp.out _).mono ?_; rintro e w3 ⟨rfl, rfl⟩)
          refine bodyPost_ret (v := .tuple #[.agg #[(Value.string ⟨List.toArray (h)⟩), .int .i64 0], .int .i64 0]) (by simp [results, Tryd.results54, go_sem, c0, c1, hlt]) rfl ⟨?_, ?_⟩
          · rw [Hq.out]
          · repeat (first | exact Hw2.out | (refine Below.setCell (p := ⟨_, _, none⟩) ?_ (by simp <;> omega) _) | (refine Below.alloc ?_ (by simp <;> omega) _) | refine Below.drew ?_)
        · have Hq := hid (show hostPort s = ((h, p), 0) by rw [hq]; unfold hostPortOf; simp [h443])
          have hx : (p == 443) = false := by simp [h443]
          clear hq h443
          go_enter Tryd.func54, Tryd.ntmps54
          go_wp2_with fail
          rw [Hwa.out]
          refine (Hct.out _ (hE.below Hba.out)).mono ?_
          rintro e w1 ⟨rfl, n, hw1⟩
          have Hw1 : Hid (Below w.heap.size w w1) := hid (by rw [hw1]; exact below_drewN Hba.out _)
          have Ha1 : Hid (w1.heap[w.heap.size]? = some (.cells #[(Value.string ⟨List.toArray ([])⟩), .int .i64 0] 69 (0, 0))) := hid (by rw [hw1]; exact Ha.out)
          clear hw1
          go_wp2_with fail
          refine (Hh.out _ (hE.below Hw1.out)).mono ?_
          rintro e w2 ⟨rfl, hw2⟩
          have Ha2 := hid ((hw2.block _ (heap_lt Ha1.out)).trans Ha1.out)
          have Hw2 := hid (below_all Hw1.out hw2)
          clear hw2
          have hlt := heap_lt Ha2.out
          have c0 := Lib.cell_of_heap Ha2.out 0
          have c1 := Lib.cell_of_heap Ha2.out 1
          have z0 := Lib.frozen_of_heap Ha2.out 0
          have z1 := Lib.frozen_of_heap Ha2.out 1
          go_wp2_with (go_at_call 102; refine (Hp.out _).mono ?_; rintro e w3 ⟨rfl, rfl⟩)
          refine bodyPost_ret (v := .tuple #[.agg #[(Value.string ⟨List.toArray (h)⟩), .int .i64 p], .int .i64 0]) (by simp [results, Tryd.results54, go_sem, c0, c1, hlt]) rfl ⟨?_, ?_⟩
          · rw [Hq.out]
          · repeat (first | exact Hw2.out | (refine Below.setCell (p := ⟨_, _, none⟩) ?_ (by simp <;> omega) _) | (refine Below.alloc ?_ (by simp <;> omega) _) | refine Below.drew ?_)
      · have Hq := hid (show hostPort s = (([], 0), f) by rw [hq]; unfold hostPortOf; simp [hf])
        have hx : (f != 0) = true := by simp [hf]
        clear hq hf
        go_enter Tryd.func54, Tryd.ntmps54
        go_wp2_with fail
        rw [Hwa.out]
        refine (Hct.out _ (hE.below Hba.out)).mono ?_
        rintro e w1 ⟨rfl, n, hw1⟩
        have Hw1 : Hid (Below w.heap.size w w1) := hid (by rw [hw1]; exact below_drewN Hba.out _)
        have Ha1 : Hid (w1.heap[w.heap.size]? = some (.cells #[(Value.string ⟨List.toArray ([])⟩), .int .i64 0] 69 (0, 0))) := hid (by rw [hw1]; exact Ha.out)
        clear hw1
        go_wp2_with fail
        refine (Hh.out _ (hE.below Hw1.out)).mono ?_
        rintro e w2 ⟨rfl, hw2⟩
        have Ha2 := hid ((hw2.block _ (heap_lt Ha1.out)).trans Ha1.out)
        have Hw2 := hid (below_all Hw1.out hw2)
        clear hw2
        have hlt := heap_lt Ha2.out
        have c0 := Lib.cell_of_heap Ha2.out 0
        have c1 := Lib.cell_of_heap Ha2.out 1
        have z0 := Lib.frozen_of_heap Ha2.out 0
        have z1 := Lib.frozen_of_heap Ha2.out 1
        go_wp2_with (go_at_call 102; refine (Hp.out _).mono ?_; rintro e w3 ⟨rfl, rfl⟩)
        refine bodyPost_ret (v := .tuple #[.agg #[(Value.string ⟨List.toArray ([])⟩), .int .i64 0], .int .i64 f]) (by simp [results, Tryd.results54, go_sem, c0, c1, hlt]) rfl ⟨?_, ?_⟩
        · rw [Hq.out]
        · repeat (first | exact Hw2.out | (refine Below.setCell (p := ⟨_, _, none⟩) ?_ (by simp <;> omega) _) | (refine Below.alloc ?_ (by simp <;> omega) _) | refine Below.drew ?_)
  · have hx : (e != 0) = true := by simp [he]
    have Hq := hid (show hostPort s = (([], 0), e) by rw [hq]; unfold hostPortOf; rw [if_pos he])
    clear hq he
    go_enter Tryd.func54, Tryd.ntmps54
    go_wp2_with fail
    rw [Hwa.out]
    refine (Hct.out _ (hE.below Hba.out)).mono ?_
    rintro e w1 ⟨rfl, n, hw1⟩
    have Hw1 : Hid (Below w.heap.size w w1) := hid (by rw [hw1]; exact below_drewN Hba.out _)
    have Ha1 : Hid (w1.heap[w.heap.size]? = some (.cells #[(Value.string ⟨List.toArray ([])⟩), .int .i64 0] 69 (0, 0))) := hid (by rw [hw1]; exact Ha.out)
    clear hw1
    go_wp2_with fail
    refine (Hh.out _ (hE.below Hw1.out)).mono ?_
    rintro e w2 ⟨rfl, hw2⟩
    have Ha2 := hid ((hw2.block _ (heap_lt Ha1.out)).trans Ha1.out)
    have Hw2 := hid (below_all Hw1.out hw2)
    clear hw2
    have hlt := heap_lt Ha2.out
    have c0 := Lib.cell_of_heap Ha2.out 0
    have c1 := Lib.cell_of_heap Ha2.out 1
    have z0 := Lib.frozen_of_heap Ha2.out 0
    have z1 := Lib.frozen_of_heap Ha2.out 1
    go_wp2_with fail
    refine bodyPost_ret (v := .tuple #[.agg #[(Value.string ⟨List.toArray ([])⟩), .int .i64 0], .int .i64 e]) (by simp [results, Tryd.results54, go_sem, c0, c1]) rfl ⟨?_, ?_⟩
    · rw [Hq.out]
    · repeat (first | exact Hw2.out | (refine Below.setCell (p := ⟨_, _, none⟩) ?_ (by simp <;> omega) _) | (refine Below.alloc ?_ (by simp <;> omega) _) | refine Below.drew ?_)
theorem slice_buf (B a : Nat) (ha : a ≤ 19) (W : World) : (Instr.sliceAt 129 (.pointer (some ⟨B, 0, none⟩)) (some (.int .i64 a)) none none).run Tryd.prog W = .ok (.slice (some ⟨B, a, none⟩) (20 - a) (20 - a)) W := by
  have h20 : Tryd.prog.arrayLen 129 = 20 := by kernel_rfl
  have he : Tryd.prog.elem 129 = 5 := by kernel_rfl
  have hu : Tryd.prog.underlying 129 = some (.array (Tryd.prog.arrayLen 129) (Tryd.prog.elem 129)) := by kernel_rfl
  rw [run_sliceAt_array_l W _ ⟨B, 0, none⟩ hu .i64 a (by omega) (by rw [h20]; omega), he, h20, Tryd.sizeOf5]
  have : ¬ (20 = a) := by omega
  simp [Result.andThen, slicedAt, addr_add, this]
set_option maxHeartbeats 400000 in
theorem number_Format (n : Nat) (w : World) (hn : n ≤ 18446744073709551615) :
    Calls Tryd.prog 107 #[.int .u64 n] w fun e w' => e = .returned (Value.string ⟨List.toArray (decS n)⟩) ∧ Below w.heap.size w w' := by
  have hlen : (decS n).length ≤ 20 := decS_length 19 n (by omega)
  go_enter Tryd.func107, Tryd.ntmps107
  go_wp2_with fail
  go_loopw [0, 4] (fun v i wr => ∃ (k a : Nat) (x ds : Bytes), v = .int .u64 k ∧ i = .int .i64 a ∧ k ≤ 18446744073709551615 ∧ a ≤ 19 ∧ RowU8 wr w.heap.size (x ++ ds) ∧ x.length = a + 1 ∧ ds.length = 19 - a ∧ decS k ++ ds = decS n ∧ (decS k).length ≤ a + 1 ∧ Below w.heap.size w wr) (fun v _ _ => (intOf v).toNat)
  case atStart =>
    refine ⟨n, 19, List.replicate 20 0, [], rfl, rfl, hn, by omega, ?_, by simp, rfl, by simp, hlen, (Below.refl _ _).alloc (Nat.le_refl _) _⟩
    exact ⟨[], _, (0, 0), heap_new _ _, Or.inr (by simp)⟩
  case round =>
    obtain ⟨k, a, x, ds, rfl, rfl, hk, ha, hrow, hx, hds, heq, hl, hw⟩ := hrel
    obtain ⟨y, z, rfl, hy⟩ := snoc_of hx
    have e : y ++ [z] ++ ds = y ++ z :: ds := by simp
    rw [e] at hrow
    obtain ⟨cv, hcell⟩ : ∃ q : Int, wr.cell? ⟨w.heap.size, a, none⟩ = some (.int .u8 q) := ⟨_, hrow.cell (k := a) (by simp; omega)⟩
    have hfz := hrow.frozen (k := a) (by simp; omega)
    have Hrow := hid hrow
    have Heq := hid heq
    have Hw := hid hw
    have Hy := hid hy
    have Hds := hid hds
    clear hrow heq hw hy hds hx e
    by_cases h10 : k < 10
    · have hst := Hrow.out.set (k := a) (by have := Hy.out; simp; omega) (dig k)
      have hset : (y ++ z :: ds).set a (dig k) = y ++ (dig k) :: ds := by rw [← Hy.out]; exact set_mid y z _ ds
      rw [hset, digit_toNat h10] at hst
      have hback := fun cap => hst.backAt Hy.out cap
      have hdl : ((dig k) :: ds).length = 20 - a := by have := Hds.out; simp; omega
      rw [hdl] at hback
      have Hds2 := hid (show decS n = (dig k) :: ds by rw [← Heq.out, decS_small h10]; rfl)
      have hsl := slice_buf w.heap.size a ha
      clear hst hset hdl
      go_wp2_with fail
      go_ret
      exact ⟨ret_str Hds2.out.symm, Hw.out.setCell (p := ⟨w.heap.size, a, none⟩) (Nat.le_refl _) _⟩
    · have hst := Hrow.out.set (k := a) (by have := Hy.out; simp; omega) (dig (k % 10))
      have hset : (y ++ z :: ds).set a (dig (k % 10)) = y ++ (dig (k % 10)) :: ds := by rw [← Hy.out]; exact set_mid y z _ ds
      rw [hset, digit_toNat (show k % 10 < 10 by omega)] at hst
      have Hst := hid hst
      have Heq2 := hid (show decS (k / 10) ++ (dig (k % 10)) :: ds = decS n by rw [← Heq.out, decS_big h10]; simp)
      have hl2 := decS_big_length h10
      have hp2 := decS_pos (k / 10)
      have Hl2 := hid hl2
      clear hst hset hl2
      go_wp2_with fail
      have h1 := Hl2.out
      refine ⟨⟨k / 10, a - 1, y, _, congrArg (Value.int .u64) (by omega), congrArg (Value.int .i64) (by omega), by omega, by omega, Hst.out, by have := Hy.out; omega, by have := Hds.out; simp; omega, Heq2.out, by omega, Hw.out.setCell (p := ⟨w.heap.size, a, none⟩) (Nat.le_refl _) _⟩, ?_⟩
      simp [intOf]; omega
theorem neg_u64 (p : Int) (h : p < 0) (h1 : -9223372036854775808 ≤ p) : IntKind.u64.wrap (-(IntKind.u64.wrap p)) = (p.natAbs : Int) := by
  simp only [IntKind.wrap, IntKind.signed, IntKind.bits]
  simp
  omega
set_option maxHeartbeats 400000 in
theorem host_Format (h : Bytes) (p : Int) (w : World) (hh : h.length ≤ 4611686018427387904) (h1 : -9223372036854775808 ≤ p) (h2 : p ≤ 9223372036854775807) :
    Calls Tryd.prog 57 #[.agg #[(Value.string ⟨List.toArray (h)⟩), .int .i64 p]] w fun e w' => e = .returned (Value.string ⟨List.toArray (hostText h p)⟩) ∧ Below w.heap.size w w' := by
  have ha := heap_new w (.cells #[(Value.string ⟨List.toArray (h)⟩), .int .i64 p] 69)
  have hba : Below w.heap.size w (w.alloc (.cells #[(Value.string ⟨List.toArray (h)⟩), .int .i64 p] 69)) := (Below.refl _ _).alloc (Nat.le_refl _) _
  generalize hwa : w.alloc (.cells #[(Value.string ⟨List.toArray (h)⟩), .int .i64 p] 69) = wa at ha hba
  have hlt := heap_lt ha
  have c0 : wa.cell? ⟨w.heap.size, 0, none⟩ = some (Value.string ⟨List.toArray (h)⟩) := Lib.cell_of_heap ha 0
  have c1 : wa.cell? ⟨w.heap.size, 1, none⟩ = some (.int .i64 p) := Lib.cell_of_heap ha 1
  have Hba := hid hba
  have Hwa := hid hwa
  clear ha hba hwa
  by_cases h0 : p = 0
  · subst h0
    have Hq := hid (show hostText h 0 = h from if_pos rfl)
    go_enter Tryd.func57, Tryd.ntmps57
    go_wp2_with fail
    rw [Hwa.out]
    go_wp2_with fail
    go_ret
    exact ⟨ret_str Hq.out.symm, Hba.out⟩
  · have hx : (p == 0) = false := by simp [h0]
    by_cases hneg : p < 0
    · have Hq := hid (show hostText h p = h ++ [58, 45] ++ decS p.natAbs by unfold hostText; rw [if_neg h0, if_pos hneg])
      clear h0
      go_enter Tryd.func57, Tryd.ntmps57
      go_wp2_with fail
      rw [Hwa.out]
      go_wp2_with fail
      have hd := decS_length 19 p.natAbs (by omega)
      have hu := neg_u64 p hneg h1
      have n1 : ¬ 9223372036854775807 < h.length + 2 := by omega
      have n2 : ¬ 9223372036854775807 < h.length + 2 + (decS p.natAbs).length := by omega
      have hpn : p.natAbs ≤ 18446744073709551615 := by omega
      have k0 := cell_regrown c0
      have k1 := cell_regrown c1
      clear c0 c1 hx
      refine wp_region_quiet_below (by kernel_rfl) (by kernel_rfl) ?_
      repeat (quiet_step ((go_at_call 107; exact Calls.regrown_of (number_Format _ _ hpn))))
      refine wpQuiet_nil ?_
      intro _ hw'
      obtain ⟨⟨dq, osq⟩, hw''⟩ := hw'
      subst hw''
      have hbq := below_regrown wa dq osq
      generalize grow (redrawn wa dq) osq = wq at hbq ⊢
      clear hu n1 n2 k0 k1
      go_wp2_with fail
      go_ret
      exact ⟨ret_str (by rw [Hq.out]; simp), below_all Hba.out hbq⟩
    · have Hq := hid (show hostText h p = h ++ [58] ++ decS p.natAbs by unfold hostText; rw [if_neg h0, if_neg hneg])
      clear h0
      go_enter Tryd.func57, Tryd.ntmps57
      go_wp2_with fail
      rw [Hwa.out]
      go_wp2_with fail
      have hd := decS_length 19 p.natAbs (by omega)
      have hu : IntKind.u64.wrap p = (p.natAbs : Int) := (u64_in (show 0 ≤ p by omega) h2).trans (by omega)
      have n1 : ¬ 9223372036854775807 < h.length + 1 := by omega
      have n2 : ¬ 9223372036854775807 < h.length + 1 + (decS p.natAbs).length := by omega
      have hpn : p.natAbs ≤ 18446744073709551615 := by omega
      have k0 := cell_regrown c0
      have k1 := cell_regrown c1
      clear c0 c1 hx
      refine wp_region_quiet_below (by kernel_rfl) (by kernel_rfl) ?_
      repeat (quiet_step ((go_at_call 107; exact Calls.regrown_of (number_Format _ _ hpn))))
      refine wpQuiet_nil ?_
      intro _ hw'
      obtain ⟨⟨dq, osq⟩, hw''⟩ := hw'
      subst hw''
      have hbq := below_regrown wa dq osq
      generalize grow (redrawn wa dq) osq = wq at hbq ⊢
      clear hu n1 n2 k0 k1
      go_wp2_with fail
      go_ret
      exact ⟨ret_str (by rw [Hq.out]; simp), below_all Hba.out hbq⟩
end Go.Proofs.YtnpkjglcbolcbaaDoor
