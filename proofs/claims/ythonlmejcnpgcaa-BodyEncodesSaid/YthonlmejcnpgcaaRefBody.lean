/- The walks of the reference of package body. -/
import Derived.Test.YthonlmejcnpgcaaBodyP
import Derived.Test.YthonlmejcnpgcaaMem
import Derived.StillTailTactics
import Derived.Deep.QuietTactic
import Derived.BigQuiet
namespace Go.Proofs.Ythonlmejcnpgcaa
open Go.RowKit Wf
attribute [local go_sem] ex_list app_list get_list

set_option maxHeartbeats 400000 in
theorem ref19_hex (n : Nat) (w : World) (h0 : 0 < n) (hn : n ≤ 1000000000) :
    Calls Try.prog 18 #[.int .i64 n] w fun e w' => e = .returned (Value.string ⟨List.toArray (hexS n)⟩) ∧ w = w' := by
  go_enter Try.func18, Try.ntmps18
  go_wp2
  go_loop [0, 3] (fun t i => ∃ (k : Nat) (l : Bytes), 0 < k ∧ k + l.length ≤ n ∧ t = .int .i64 k ∧ i = (Value.string ⟨List.toArray (l)⟩) ∧ hexS k ++ l = hexS n) (fun t i => (intOf t).toNat)
  case atStart => exact ⟨n, [], h0, by simp, rfl, rfl, by simp⟩
  case round =>
    obtain ⟨k, l, hk0, hk, rfl, rfl, heq⟩ := hrel
    have Heq := hid (hex_next hk0 heq)
    clear heq
    by_cases hz : k / 16 = 0
    · have hz' : ((k : Int) / 16 == 0) = true := by simp; omega
      go_wp2
      go_ret
      refine ⟨ret_str ?_, rfl⟩
      have := Heq.out
      rw [hz, hexS_zero] at this
      rw [hex_at]
      exact this
    · have hz' : ((k : Int) / 16 == 0) = false := by simp; omega
      go_wp2
      go_round
      case rel => exact ⟨k / 16, hexDig (k % 16) :: l, by omega, by simp; omega, by go_num, by rw [hex_at]; rfl, Heq.out⟩
      case measure => simp [intOf]; omega

set_option maxHeartbeats 400000 in
theorem ref19_Encode (s : Bytes) (size : Int) (w : World) (hs : s.length ≤ 1000000) (h1 : -9223372036854775808 ≤ size) (h2 : size ≤ 9223372036854775807) :
    Calls Try.prog 8 #[(Value.string ⟨List.toArray (s)⟩), .int .i64 size] w fun e w' => e = .returned (Value.string ⟨List.toArray (encode size s)⟩) ∧ Below w.heap.size w w' := by
  go_enter Try.func8, Try.ntmps8
  go_wp2
  go_loopw [0, 5] (fun v o wr => ∃ s' acc : Bytes, v = (Value.string ⟨List.toArray (s')⟩) ∧ o = (Value.string ⟨List.toArray (acc)⟩) ∧ s'.length ≤ s.length ∧ Below w.heap.size w wr ∧ acc.length + 100 * s'.length ≤ 100 * s.length ∧ acc ++ encode size s' = encode size s) (fun v _ _ => sLen v)
  case atStart => exact ⟨s, [], rfl, rfl, by omega, Below.refl _ _, by simp, by simp⟩
  case round =>
    obtain ⟨s', acc, rfl, rfl, hs', hw, hl, heq⟩ := hrel
    have Heq := hid heq
    have Hw := hid hw
    clear heq hw
    cases hn : s'.isEmpty
    · have hne : s' ≠ [] := by rintro rfl; simp at hn
      obtain ⟨hp1, hp2⟩ := chunkLen_pos (size := size) hne
      have hcl : min (max 1 size) (s'.length : Int) = (chunkLen size s' : Int) := by unfold chunkLen; omega
      have hnx := encode_next (size := size) hne Heq.out
      clear Heq
      generalize chunkLen size s' = n at *
      have hxl := hexS_length n
      have Hnx := hid hnx
      have Hcl := hid hcl
      clear hcl hnx hne
      go_wp2
      rw [Hcl.out]
      go_quiet ((go_at_call 18; exact quiet_left (ref19_hex _ _ hp1 (by omega))))
      go_wp2
      refine ⟨⟨s'.drop n, _, rfl, rfl, by simp; omega, below_drewN Hw.out _, by simp; omega, Hnx.out⟩, ?_⟩
      simp [sLen_mk]; omega
    · have hne : s' = [] := by simpa using hn
      have heq := Heq.out
      rw [hne, encode_nil] at heq
      have Heq2 := hid heq
      clear heq
      go_wp2_with fail
      go_ret
      exact ⟨ret_str Heq2.out, Hw.out⟩
end Go.Proofs.Ythonlmejcnpgcaa
