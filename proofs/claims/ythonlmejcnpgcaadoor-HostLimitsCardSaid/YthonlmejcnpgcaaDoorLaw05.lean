/- The walks of the statements on package host. -/
import Derived.Test.YthonlmejcnpgcaaDoorRefHost2
namespace Go.Proofs.YthonlmejcnpgcaaDoor
open Go.RowKit Go.Sort Wf
attribute [local go_sem] ex_list app_list get_list

theorem heap_keep {w w' : World} {b : Nat} {o : Obj} (h : w.heap[b]? = some o) (hb : Below w.heap.size w w') : w'.heap[b]? = some o := (hb.block _ (heap_lt h)).trans h
set_option maxHeartbeats 400000 in
theorem law05_sane (w : World) (hE : Env w) : Calls Tryd.prog 8 #[] w fun e w' => e = .returned (.bool true) ∧ Below w.heap.size w w' := by
  have a1 : hostPort ([69, 120, 97, 109, 112, 108, 101, 46, 67, 79, 77, 58, 52, 52, 51] : List UInt8) = ((([101, 120, 97, 109, 112, 108, 101, 46, 99, 111, 109] : List UInt8), 0), 0) := by decide +kernel
  have a2 : (hostM ([49, 46, 50, 46, 51] : List UInt8)).2 = 50 := by decide +kernel
  have a3 : (hostM ([97, 46, 46, 98] : List UInt8)).2 = 50 := by decide +kernel
  have a4 : ipv4 ([49, 46, 50, 46, 51, 46, 52] : List UInt8) = true := by decide +kernel
  have a5 : ipv4 ([48, 49, 46, 50, 46, 51, 46, 52] : List UInt8) = false := by decide +kernel
  have A1 := hid a1
  have A2 := hid a2
  have A3 := hid a3
  have A4 := hid a4
  have A5 := hid a5
  clear a1 a2 a3 a4 a5
  go_enter Tryd.func8, Tryd.ntmps8
  go_wp2_with fail
  refine (host_Parse _ _ hE (by decide)).mono ?_
  rintro e w1 ⟨rfl, hw1⟩
  rw [A1.out]
  go_wp2_with fail
  have ha := heap_new w1 (.cells #[(Value.string ⟨List.toArray (([101, 120, 97, 109, 112, 108, 101, 46, 99, 111, 109] : List UInt8))⟩), .int .i64 0] 31)
  have hba : Below w.heap.size w (w1.alloc (.cells #[(Value.string ⟨List.toArray (([101, 120, 97, 109, 112, 108, 101, 46, 99, 111, 109] : List UInt8))⟩), .int .i64 0] 31)) := hw1.alloc (by have := hw1.size; omega) _
  generalize w1.alloc (.cells #[(Value.string ⟨List.toArray (([101, 120, 97, 109, 112, 108, 101, 46, 99, 111, 109] : List UInt8))⟩), .int .i64 0] 31) = wa at ha hba ⊢
  have Ha := hid ha
  have Hba := hid hba
  clear ha hba
  refine (host_Host _ _ (hE.below Hba.out) (by decide)).mono ?_
  rintro e w2 ⟨rfl, hw2⟩
  rw [A2.out]
  go_wp2_with fail
  refine (host_Host _ _ (hE.below (below_all Hba.out hw2)) (by decide)).mono ?_
  rintro e w3 ⟨rfl, hw3⟩
  rw [A3.out]
  have ha3 := (hw3.block _ (heap_lt ((hw2.block _ (heap_lt Ha.out)).trans Ha.out))).trans ((hw2.block _ (heap_lt Ha.out)).trans Ha.out)
  have Hw3 := hid (below_all (below_all Hba.out hw2) hw3)
  have c0 : w3.cell? ⟨w1.heap.size, 0, none⟩ = some (Value.string ⟨List.toArray (([101, 120, 97, 109, 112, 108, 101, 46, 99, 111, 109] : List UInt8))⟩) := Lib.cell_of_heap ha3 0
  have c1 : w3.cell? ⟨w1.heap.size, 1, none⟩ = some (.int .i64 0) := Lib.cell_of_heap ha3 1
  clear hw1 hw2 hw3 ha3
  go_wp2_with fail
  refine (host_IsIPv4 _ _ (hE.below Hw3.out) (by decide)).mono ?_
  rintro e w4 ⟨rfl, hw4⟩
  have Hw4 := hid (below_all Hw3.out hw4)
  clear hw4
  rw [A4.out]
  go_wp2_with fail
  refine (host_IsIPv4 _ _ (hE.below Hw4.out) (by decide)).mono ?_
  rintro e w5 ⟨rfl, hw5⟩
  have Hw5 := hid (below_all Hw4.out hw5)
  clear hw5
  rw [A5.out]
  go_wp2_with fail
  go_ret
  exact ⟨rfl, Hw5.out⟩
set_option maxHeartbeats 400000 in
theorem law05_HostHosts (s : Bytes) (w : World) (hE : Env w) (hs : s.length ≤ 9223372036854775807) :
    Calls Tryd.prog 3 #[(Value.string ⟨List.toArray (s)⟩)] w fun e w' => e = .returned (.bool true) ∧ Below w.heap.size w w' := by
  by_cases hbig : 1000 < s.length
  · go_enter Tryd.func3, Tryd.ntmps3
    go_wp2_with (go_at_call 8; refine (law05_sane _ hE).mono ?_; rintro e w1 ⟨rfl, hw1⟩)
    go_ret
    exact ⟨rfl, hw1⟩
  · go_enter Tryd.func3, Tryd.ntmps3
    go_wp2_with fail
    refine (law05_sane _ hE).mono ?_
    rintro e w1 ⟨rfl, hw1⟩
    go_wp2_with fail
    refine (host_Host _ _ (hE.below hw1) (by omega)).mono ?_
    rintro e w2 ⟨rfl, hw2⟩
    go_wp2_with fail
    refine (ref05_Host _ _ (by omega)).mono ?_
    rintro e w3 ⟨rfl, hw3⟩
    go_wp2_with (first
      | (go_at_call 11; refine (host_IsIPv4 _ _ (hE.below (below_all (below_all hw1 hw2) hw3)) (by omega)).mono ?_; rintro e w4 ⟨rfl, hw4⟩)
      | (go_at_call 12; refine (ref05_IsIPv4 _ _ (by omega)).mono ?_; rintro e w5 ⟨rfl, hw5⟩))
    go_ret
    exact ⟨rfl, below_all (below_all (below_all (below_all hw1 hw2) hw3) hw4) hw5⟩
set_option maxHeartbeats 400000 in
theorem law05_HostPorts (s : Bytes) (w : World) (hE : Env w) (hs : s.length ≤ 9223372036854775807) :
    Calls Tryd.prog 4 #[(Value.string ⟨List.toArray (s)⟩)] w fun e w' => e = .returned (.bool true) ∧ Below w.heap.size w w' := by
  cases hbig : decide ((1000 : Int) < s.length)
  all_goals
    go_enter Tryd.func4, Tryd.ntmps4
    go_wp2_with (first
      | (go_at_call 8; refine (law05_sane _ hE).mono ?_; rintro e w1 ⟨rfl, hw1⟩)
      | (go_at_call 13; refine (host_Port _ _ hs).mono ?_; rintro e w2 ⟨rfl, rfl⟩)
      | (go_at_call 14; refine (ref05_Port _ _ hs).mono ?_; rintro e w2 ⟨rfl, rfl⟩))
    go_ret
    exact ⟨rfl, hw1⟩
set_option maxHeartbeats 400000 in
theorem law05_HostParses (s h : Bytes) (p : Int) (w : World) (hE : Env w) (hs : s.length ≤ 9223372036854775807) (hh : h.length ≤ 4611686018427387904) (h1 : -9223372036854775808 ≤ p) (h2 : p ≤ 9223372036854775807) :
    Calls Tryd.prog 6 #[(Value.string ⟨List.toArray (s)⟩), .agg #[(Value.string ⟨List.toArray (h)⟩), .int .i64 p]] w fun e w' => e = .returned (.bool true) ∧ Below w.heap.size w w' := by
  have hc1 := fun w hE (h : s.length < 4294967281) => host_Parse s w hE h
  have hc2 := fun w (h : s.length ≤ 1000000000) => ref05_Parse s w h
  generalize hostPort s = X at hc1 hc2
  obtain ⟨⟨x, q⟩, e⟩ := X
  simp only at hc1 hc2
  have ha := heap_new w (.cells #[(Value.string ⟨List.toArray (h)⟩), .int .i64 p] 31)
  have hba : Below w.heap.size w (w.alloc (.cells #[(Value.string ⟨List.toArray (h)⟩), .int .i64 p] 31)) := (Below.refl _ _).alloc (Nat.le_refl _) _
  generalize hwa : w.alloc (.cells #[(Value.string ⟨List.toArray (h)⟩), .int .i64 p] 31) = wa at ha hba
  have Ha := hid ha
  have Hba := hid hba
  have Hwa := hid hwa
  clear ha hba hwa
  by_cases hbig : 1000 < s.length
  · go_enter Tryd.func6, Tryd.ntmps6
    go_wp2_with fail
    rw [Hwa.out]
    refine (law05_sane _ (hE.below Hba.out)).mono ?_
    rintro e w1 ⟨rfl, hw1⟩
    have Hw1 := hid (below_all Hba.out hw1)
    clear hw1
    go_wp2_with fail
    go_ret
    exact ⟨rfl, Hw1.out⟩
  · have Hc1 := hid (fun w hE => hc1 w hE (by omega))
    have Hc2 := hid (fun w => hc2 w (by omega))
    clear hc1 hc2
    go_enter Tryd.func6, Tryd.ntmps6
    go_wp2_with fail
    rw [Hwa.out]
    refine (law05_sane _ (hE.below Hba.out)).mono ?_
    rintro e w1 ⟨rfl, hw1⟩
    have Ha1 := hid (heap_keep Ha.out hw1)
    have Hw1 := hid (below_all Hba.out hw1)
    clear hw1
    go_wp2_with fail
    refine (Hc1.out _ (hE.below Hw1.out)).mono ?_
    rintro e w2 ⟨rfl, hw2⟩
    have Ha2 := hid (heap_keep Ha1.out hw2)
    have Hw2 := hid (below_all Hw1.out hw2)
    clear hw2
    go_wp2_with fail
    have hc := heap_keep Ha2.out ((Below.refl _ _).alloc (Nat.le_refl _) (.cells #[(Value.string ⟨List.toArray (x)⟩), .int .i64 q] 31))
    have ha := heap_new w2 (.cells #[(Value.string ⟨List.toArray (x)⟩), .int .i64 q] 31)
    have hba : Below w.heap.size w (w2.alloc (.cells #[(Value.string ⟨List.toArray (x)⟩), .int .i64 q] 31)) := Hw2.out.alloc Hw2.out.size _
    generalize w2.alloc (.cells #[(Value.string ⟨List.toArray (x)⟩), .int .i64 q] 31) = wa3 at ha hba hc ⊢
    have HC3 := hid hc
    have HA3 := hid ha
    have HB3 := hid hba
    clear ha hba hc
    refine (Hc2.out _).mono ?_
    rintro e w4 ⟨rfl, hw4⟩
    have Ha4 := hid (heap_keep HC3.out hw4)
    have Hx4 := hid (heap_keep HA3.out hw4)
    have Hw4 := hid (below_all HB3.out hw4)
    clear hw4
    go_wp2_with fail
    have Hx5 := hid (heap_keep Hx4.out ((Below.refl _ _).alloc (Nat.le_refl _) (.cells #[(Value.string ⟨List.toArray (x)⟩), .int .i64 q] 31)))
    have hc := heap_keep Ha4.out ((Below.refl _ _).alloc (Nat.le_refl _) (.cells #[(Value.string ⟨List.toArray (x)⟩), .int .i64 q] 31))
    have hx := Hx5.out
    have ha := heap_new w4 (.cells #[(Value.string ⟨List.toArray (x)⟩), .int .i64 q] 31)
    have hba : Below w.heap.size w (w4.alloc (.cells #[(Value.string ⟨List.toArray (x)⟩), .int .i64 q] 31)) := Hw4.out.alloc Hw4.out.size _
    clear Hx5
    generalize w4.alloc (.cells #[(Value.string ⟨List.toArray (x)⟩), .int .i64 q] 31) = wa5 at ha hba hc hx ⊢
    have HC5 := hid hc
    have HA5 := hid ha
    have HB5 := hid hba
    have Hx5 := hid hx
    clear ha hba hc hx
    have k0 := cell_regrown (Lib.cell_of_heap HC5.out 0)
    have k1 := cell_regrown (Lib.cell_of_heap HC5.out 1)
    have k2 := cell_regrown (Lib.cell_of_heap HA5.out 0)
    have k3 := cell_regrown (Lib.cell_of_heap HA5.out 1)
    have k4 := cell_regrown (Lib.cell_of_heap Hx5.out 0)
    have k5 := cell_regrown (Lib.cell_of_heap Hx5.out 1)
    refine wp_region_quiet_below (by kernel_rfl) (by kernel_rfl) ?_
    repeat (quiet_step ((first | (go_at_call 17; exact Calls.regrown_of (host_Format _ _ _ hh h1 h2)) | (go_at_call 18; exact Calls.regrown_of (ref05_Format _ _ _ hh h1 h2)))))
    refine wpQuiet_nil ?_
    intro _ hw'
    obtain ⟨⟨dq, osq⟩, hw''⟩ := hw'
    subst hw''
    have hbq := below_regrown wa5 dq osq
    generalize grow (redrawn wa5 dq) osq = wq at hbq ⊢
    go_wp2_with fail
    go_ret
    exact ⟨rfl, below_all HB5.out hbq⟩
end Go.Proofs.YthonlmejcnpgcaaDoor
