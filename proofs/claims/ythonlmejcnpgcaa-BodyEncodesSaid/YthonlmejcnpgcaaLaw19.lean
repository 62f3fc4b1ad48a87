/- The walks of the statements on package body. -/
import Derived.Test.YthonlmejcnpgcaaBody3
import Derived.Test.YthonlmejcnpgcaaRefBody
import Derived.Test.YthonlmejcnpgcaaBodyQ
namespace Go.Proofs.Ythonlmejcnpgcaa
open Go.RowKit Wf
attribute [local go_sem] ex_list app_list get_list
theorem below_all {w a b : World} (h : Below w.heap.size w a) (k : Below a.heap.size a b) : Below w.heap.size w b := h.trans (k.mono h.size)
theorem enc_abc : encode 2 [97, 98, 99] = [50, 13, 10, 97, 98, 13, 10, 49, 13, 10, 99, 13, 10, 48, 13, 10, 13, 10] := by
  rw [encode_ne (by simp)]
  have h1 : chunkLen 2 [97, 98, 99] = 2 := by decide
  rw [h1, encode_ne (by simp)]
  have h2 : chunkLen 2 (List.drop 2 [97, 98, 99]) = 1 := by decide
  rw [h2]
  have h3 : hexS 2 = [50] := by rw [hexS_pos (by omega), show 2 / 16 = 0 from rfl, hexS_zero]; decide
  have h4 : hexS 1 = [49] := by rw [hexS_pos (by omega), show 1 / 16 = 0 from rfl, hexS_zero]; decide
  rw [h3, h4]
  simp [encode_nil, crlf]

set_option maxHeartbeats 400000 in
theorem law19_sane (w : World) : Calls Try.prog 5 #[] w fun e w' => e = .returned (.bool true) ∧ Below w.heap.size w w' := by
  have a1 : chunked [51, 13, 10, 97, 98, 99, 13, 10, 48, 13, 10, 13, 10] 9 = ([97, 98, 99], 0) := by decide +kernel
  have a2 : (chunked [51, 13, 10, 97, 98] 9).2 = 191 := by decide +kernel
  have a3 : (chunked [103, 13, 10] 9).2 = 190 := by decide +kernel
  have A1 := hid a1
  have A2 := hid a2
  have A3 := hid a3
  clear a1 a2 a3
  go_enter Try.func5, Try.ntmps5
  go_wp2_with fail
  refine (body_Chunked _ 9 _ (by decide) (by decide) (by decide)).mono ?_
  rintro e w1 ⟨rfl, hw1⟩
  rw [A1.out]
  go_wp2_with fail
  refine (body_Chunked _ 9 _ (by decide) (by decide) (by decide)).mono ?_
  rintro e w2 ⟨rfl, hw2⟩
  rw [A2.out]
  go_wp2_with fail
  refine (body_Chunked _ 9 _ (by decide) (by decide) (by decide)).mono ?_
  rintro e w3 ⟨rfl, hw3⟩
  rw [A3.out]
  go_wp2_with fail
  refine (body_Encode _ 2 _ (by decide) (by decide) (by decide)).mono ?_
  rintro e w4 ⟨rfl, hw4⟩
  rw [enc_abc]
  go_wp2_with fail
  go_ret
  exact ⟨rfl, below_all hw1 (below_all hw2 (below_all hw3 hw4))⟩

set_option maxHeartbeats 400000 in
theorem law19_BodyEncodes (s more : Bytes) (size : Int) (w : World) (hs : s.length ≤ 9223372036854775807) (hm : more.length ≤ 9223372036854775807) (h1 : -9223372036854775808 ≤ size) (h2 : size ≤ 9223372036854775807) :
    Calls Try.prog 3 #[(Value.string ⟨List.toArray (s)⟩), (Value.string ⟨List.toArray (more)⟩), .int .i64 size] w fun e w' => e = .returned (.bool true) ∧ Below w.heap.size w w' := by
  by_cases hbig : 500 < s.length ∨ 100 < more.length
  · go_enter Try.func3, Try.ntmps3
    go_wp2_with (go_at_call 5; refine (law19_sane _).mono ?_; rintro e w1 ⟨rfl, hw1⟩)
    all_goals (go_ret; exact ⟨rfl, hw1⟩)
  · have hl := (encode_length size s.length s (Nat.le_refl _)).2
    have hc1 := chunked_encode size s more s.length (by omega)
    rw [if_neg (by omega)] at hc1
    have hc2 := chunked_encode size s [] (s.length - 1 : Int) (by omega)
    rw [if_pos (by omega), List.append_nil] at hc2
    have Hc1 := hid hc1
    have Hc2 := hid hc2
    clear hc1 hc2
    go_enter Try.func3, Try.ntmps3
    go_wp2_with fail
    refine (law19_sane _).mono ?_
    rintro e w1 ⟨rfl, hw1⟩
    go_wp2_with fail
    refine (body_Encode s size _ (by omega) h1 h2).mono ?_
    rintro e w2 ⟨rfl, hw2⟩
    go_wp2_with fail
    refine (body_Chunked _ s.length _ (by simp; omega) (by omega) (by omega)).mono ?_
    rintro e w3 ⟨rfl, hw3⟩
    rw [Hc1.out]
    go_wp2_with fail
    refine (body_Chunked _ (s.length - 1) _ (by omega) (by omega) (by omega)).mono ?_
    rintro e w4 ⟨rfl, hw4⟩
    rw [Hc2.out]
    go_wp2_with (go_at_call 8; refine (ref19_Encode s size _ (by omega) h1 h2).mono ?_; rintro e w5 ⟨rfl, hw5⟩)
    go_ret
    exact ⟨rfl, below_all hw1 (below_all hw2 (below_all hw3 (below_all hw4 hw5)))⟩
end Go.Proofs.Ythonlmejcnpgcaa
