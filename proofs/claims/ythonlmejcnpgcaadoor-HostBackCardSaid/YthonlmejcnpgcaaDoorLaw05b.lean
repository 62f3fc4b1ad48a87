/- The walks of HostBack and HostLimits. -/
import Derived.Test.YthonlmejcnpgcaaDoorLaw05
import Derived.Test.YthonlmejcnpgcaaDoorHostQ
namespace Go.Proofs.YthonlmejcnpgcaaDoor
open Go.RowKit Go.Sort Wf
attribute [local go_sem] ex_list app_list get_list

theorem ret_val {a b : List UInt8} (h : a = b) : (Value.string ⟨List.toArray a⟩) = Value.string ⟨List.toArray b⟩ := by rw [h]
theorem hostText_len {x : Bytes} {p : Int} (hx : x.length ≤ 253) (h0 : 0 ≤ p) (h1 : p ≤ 65535) : (hostText x p).length < 4294967281 := by
  have := decS_length 19 p.natAbs (by omega)
  unfold hostText
  split
  · omega
  · split <;> simp <;> omega
set_option maxHeartbeats 400000 in
theorem law05_HostLimits (a b : Nat) (w : World) (hE : Env w) (ha : a < 256) (hb : b < 256) :
    Calls Tryd.prog 5 #[.int .u8 a, .int .u8 b] w fun e w' => e = .returned (.bool true) ∧ Below w.heap.size w w' := by
  go_enter Tryd.func5, Tryd.ntmps5
  go_wp2_with fail
  refine (law05_sane _ hE).mono ?_
  rintro e w1 ⟨rfl, hw1⟩
  have Hw1 := hid hw1
  clear hw1
  go_wp2_with fail
  have hn : 1 + (a : Int) % 70 = ((1 + a % 70 : Nat) : Int) := by omega
  have hk : 1 + (b : Int) % 6 = ((1 + b % 6 : Nat) : Int) := by omega
  rw [hn, hk]
  have hn0 : 0 < 1 + a % 70 := by omega
  have hn1 : 1 + a % 70 < 71 := by omega
  have hk0 : 0 < 1 + b % 6 := by omega
  have hk1 : 1 + b % 6 < 7 := by omega
  clear hn hk
  generalize 1 + a % 70 = n at hn0 hn1 ⊢
  generalize 1 + b % 6 = k at hk0 hk1 ⊢
  go_loopw [7, 8] (fun v i wr => ∃ j : Nat, j ≤ n ∧ v = (Value.string ⟨List.toArray (lab j)⟩) ∧ i = .int .i64 j ∧ Below w.heap.size w wr) (fun _ i _ => n - (intOf i).toNat)
  case atStart => exact ⟨0, by omega, rfl, rfl, Hw1.out⟩
  case round =>
    obtain ⟨j, hj, rfl, rfl, hw⟩ := hrel
    have hl : (lab j).length = j := by unfold lab; simp
    have Hw := hid hw
    clear hw
    by_cases hlt : j < n
    · have Hn := hid (show lab j ++ [97] = lab (j + 1) by unfold lab; rw [List.replicate_succ'])
      go_wp2_with fail
      go_roundw
      case rel => exact ⟨j + 1, by omega, ret_val Hn.out, by go_num, Hw.out⟩
      case measure => simp [intOf]; omega
    · obtain rfl : j = n := by omega
      clear hlt hj
      go_wp2_with fail
      go_loopw [9, 10] (fun v i wr => ∃ m : Nat, m < k ∧ v = (Value.string ⟨List.toArray (labs j m)⟩) ∧ i = .int .i64 (m + 1 : Nat) ∧ Below w.heap.size w wr) (fun _ i _ => k - (intOf i).toNat)
      case atStart => exact ⟨0, by omega, rfl, rfl, Hw.out⟩
      case round =>
        obtain ⟨m, hm, rfl, rfl, hw⟩ := hrel
        have hll := labs_length j m
        have hl6 : j * (m + 1) ≤ 70 * 6 := Nat.mul_le_mul (by omega) (by omega)
        have Hw := hid hw
        have hlen : (labs j m).length ≤ 1000 := by omega
        clear hw hll hl6
        by_cases hlt : m + 1 < k
        · have Hn := hid (show labs j m ++ ([46] ++ lab j) = labs j (m + 1) by simp [labs])
          go_wp2_with fail
          go_roundw
          case rel => exact ⟨m + 1, by omega, ret_val (by have := Hn.out; simpa using this), by go_num, Hw.out⟩
          case measure => simp [intOf]; omega
        · have HH := hid (hostM_labs hn0 hn1 m)
          by_cases h253 : 253 < (labs j m).length
          · have Hh := hid (show hostM (labs j m) = ([], 5) by rw [HH.out, if_pos h253])
            clear HH
            go_wp2_with fail
            refine (host_Host _ _ (hE.below Hw.out) (by omega)).mono ?_
            rintro e w4 ⟨rfl, hw4⟩
            rw [Hh.out]
            go_wp2_with fail
            go_ret
            exact ⟨rfl, below_all Hw.out hw4⟩
          · by_cases h63 : 63 < j
            · have Hh := hid (show hostM (labs j m) = ([], 50) by rw [HH.out, if_neg h253, if_pos h63])
              clear HH
              go_wp2_with fail
              refine (host_Host _ _ (hE.below Hw.out) (by omega)).mono ?_
              rintro e w4 ⟨rfl, hw4⟩
              rw [Hh.out]
              go_wp2_with fail
              go_ret
              exact ⟨rfl, below_all Hw.out hw4⟩
            · have Hh := hid (show hostM (labs j m) = (labs j m, 0) by rw [HH.out, if_neg h253, if_neg h63])
              clear HH
              go_wp2_with fail
              refine (host_Host _ _ (hE.below Hw.out) (by omega)).mono ?_
              rintro e w4 ⟨rfl, hw4⟩
              rw [Hh.out]
              go_wp2_with fail
              go_ret
              exact ⟨rfl, below_all Hw.out hw4⟩
set_option maxHeartbeats 400000 in
theorem law05_HostBack (s : Bytes) (w : World) (hE : Env w) (hs : s.length ≤ 9223372036854775807) :
    Calls Tryd.prog 7 #[(Value.string ⟨List.toArray (s)⟩)] w fun e w' => e = .returned (.bool true) ∧ Below w.heap.size w w' := by
  by_cases hbig : 1000 < s.length
  · go_enter Tryd.func7, Tryd.ntmps7
    go_wp2_with (go_at_call 8; refine (law05_sane _ hE).mono ?_; rintro e w1 ⟨rfl, hw1⟩)
    go_ret
    exact ⟨rfl, hw1⟩
  · have hc1 := fun w hE => host_Parse s w hE (by omega)
    have hback : ∀ x p, hostPort s = ((x, p), 0) → _ := fun x p h => hostPort_back h
    have herr : ∀ x p e, hostPort s = ((x, p), e) → e ≠ 0 → x = [] ∧ p = 0 := fun x p e h he => hostPort_err h he
    generalize hostPort s = X at hc1 hback herr
    obtain ⟨⟨x, q⟩, e⟩ := X
    by_cases he : e = 0
    · subst he
      obtain ⟨b1, b2, b3, b4, b5, b6⟩ := hback x q rfl
      simp only at hc1
      have Hc1 := hid hc1
      have Hb1 := hid b1
      have Hb2 := hid b2
      have hx : (q == 443) = false := by simp [b3]
      have hx2 : (q != 443) = true := by simp [b3]
      have hlen : decide ((x.length : Int) ≤ 253) = true := by simp; omega
      clear hc1 b1 b2 b3 hback herr
      go_enter Tryd.func7, Tryd.ntmps7
      go_wp2_with fail
      refine (law05_sane _ hE).mono ?_
      rintro e w1 ⟨rfl, hw1⟩
      have Hw1 := hid hw1
      clear hw1
      go_wp2_with fail
      refine (Hc1.out _ (hE.below Hw1.out)).mono ?_
      rintro e w2 ⟨rfl, hw2⟩
      have Hw2 := hid (below_all Hw1.out hw2)
      clear hw2
      go_wp2_with fail
      have ha := heap_new w2 (.cells #[(Value.string ⟨List.toArray (x)⟩), .int .i64 q] 31)
      have hba : Below w.heap.size w (w2.alloc (.cells #[(Value.string ⟨List.toArray (x)⟩), .int .i64 q] 31)) := Hw2.out.alloc Hw2.out.size _
      generalize w2.alloc (.cells #[(Value.string ⟨List.toArray (x)⟩), .int .i64 q] 31) = wa3 at ha hba ⊢
      have HA3 := hid ha
      have HB3 := hid hba
      clear ha hba
      refine (host_Format _ _ _ (by omega) (by omega) (by omega)).mono ?_
      rintro e w4 ⟨rfl, hw4⟩
      have Ha4 := hid (heap_keep HA3.out hw4)
      have Hw4 := hid (below_all HB3.out hw4)
      clear hw4
      have ht : (hostText x q).length < 4294967281 := hostText_len b4 b5 b6
      have hp2 := host_Parse (hostText x q) _ (hE.below Hw4.out) ht
      rw [Hb1.out] at hp2
      have Hp2 := hid hp2
      clear hp2 ht
      go_wp2_with fail
      refine Hp2.out.mono ?_
      rintro e w5 ⟨rfl, hw5⟩
      have Ha5 := hid (heap_keep Ha4.out hw5)
      have Hw5 := hid (below_all Hw4.out hw5)
      clear hw5
      have hc5 := heap_keep Ha5.out ((Below.refl _ _).alloc (Nat.le_refl _) (.cells #[(Value.string ⟨List.toArray (x)⟩), .int .i64 q] 31))
      have d0 : (w5.alloc (.cells #[(Value.string ⟨List.toArray (x)⟩), .int .i64 q] 31)).cell? ⟨w2.heap.size, 0, none⟩ = some (Value.string ⟨List.toArray (x)⟩) := Lib.cell_of_heap hc5 0
      have d1 : (w5.alloc (.cells #[(Value.string ⟨List.toArray (x)⟩), .int .i64 q] 31)).cell? ⟨w2.heap.size, 1, none⟩ = some (.int .i64 q) := Lib.cell_of_heap hc5 1
      clear hc5
      go_wp2_with fail
      clear d0 d1
      have hc := heap_keep Ha5.out ((Below.refl _ _).alloc (Nat.le_refl _) (.cells #[(Value.string ⟨List.toArray (x)⟩), .int .i64 q] 31))
      have ha := heap_new w5 (.cells #[(Value.string ⟨List.toArray (x)⟩), .int .i64 q] 31)
      have hba : Below w.heap.size w (w5.alloc (.cells #[(Value.string ⟨List.toArray (x)⟩), .int .i64 q] 31)) := Hw5.out.alloc Hw5.out.size _
      generalize w5.alloc (.cells #[(Value.string ⟨List.toArray (x)⟩), .int .i64 q] 31) = wa6 at ha hba hc ⊢
      have HC6 := hid hc
      have HA6 := hid ha
      have HB6 := hid hba
      clear ha hba hc
      have hh2 := host_Host x wa6 (hE.below HB6.out) (by omega)
      rw [Hb2.out] at hh2
      refine hh2.mono ?_
      clear hh2
      rintro e w7 ⟨rfl, hw7⟩
      have e7 := heap_keep HA6.out hw7
      have f7 := heap_keep HC6.out hw7
      have c0 : w7.cell? ⟨w2.heap.size, 0, none⟩ = some (Value.string ⟨List.toArray (x)⟩) := Lib.cell_of_heap f7 0
      have c1 : w7.cell? ⟨w2.heap.size, 1, none⟩ = some (.int .i64 q) := Lib.cell_of_heap f7 1
      have c2 : w7.cell? ⟨w5.heap.size, 0, none⟩ = some (Value.string ⟨List.toArray (x)⟩) := Lib.cell_of_heap e7 0
      have c3 : w7.cell? ⟨w5.heap.size, 1, none⟩ = some (.int .i64 q) := Lib.cell_of_heap e7 1
      have Hw7 := hid (below_all HB6.out hw7)
      clear hw7 e7 f7
      go_wp2_with fail
      all_goals first | (exfalso; simp at hx; done) | go_ret
      exact ⟨rfl, Hw7.out⟩
    · obtain ⟨rfl, rfl⟩ := herr x q e rfl he
      have hx : (e != 0) = true := by simp [he]
      simp only at hc1
      have Hc1 := hid hc1
      clear hc1 hback herr
      go_enter Tryd.func7, Tryd.ntmps7
      go_wp2_with fail
      refine (law05_sane _ hE).mono ?_
      rintro e w1 ⟨rfl, hw1⟩
      have Hw1 := hid hw1
      clear hw1
      go_wp2_with fail
      refine (Hc1.out _ (hE.below Hw1.out)).mono ?_
      rintro e w2 ⟨rfl, hw2⟩
      have Hw2 := hid (below_all Hw1.out hw2)
      clear hw2
      go_wp2_with fail
      refine bodyPost_ret (v := .bool true) (by simp [results, Tryd.results7, go_sem]) rfl ⟨rfl, ?_⟩
      repeat (first | exact Hw2.out | (refine Below.setCell (p := ⟨_, _, none⟩) ?_ (by simp <;> omega) _) | (refine Below.alloc ?_ (by have := Hw2.out; have := this.size; simp <;> omega) _) | refine Below.drew ?_)
end Go.Proofs.YthonlmejcnpgcaaDoor
