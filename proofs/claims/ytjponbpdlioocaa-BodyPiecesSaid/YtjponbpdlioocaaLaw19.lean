/- The walks of the statements on package body. -/
import Derived.Test.YtjponbpdlioocaaBody3
import Derived.Test.YtjponbpdlioocaaRefBody
import Derived.Test.YtjponbpdlioocaaBodyQ
set_option linter.all false
namespace Go.Proofs.Ytjponbpdlioocaa
open Go.RowKit Wf
attribute [local go_sem] ex_list app_list get_list
theorem enc_abc : encode 2 [97, 98, 99] = [50, 13, 10, 97, 98, 13, 10, 49, 13, 10, 99, 13, 10, 48, 13, 10, 13, 10] := by
  rw [encode_ne (by simp)]
  have h1 : chunkLen 2 [97, 98, 99] = 2 := by decide
  rw [h1, encode_ne (by simp)]
  have h2 : chunkLen 2 (List.drop 2 [97, 98, 99]) = 1 := by decide
  rw [h2]
  have h3 : hexS 2 = [50] := by rw [hexS_pos (by omega), show 2 / 16 = 0 from rfl, hexS_zero]; decide
  have h4 : hexS 1 = [49] := by rw [hexS_pos (by omega), show 1 / 16 = 0 from rfl, hexS_zero]; decide
  rw [h3, h4]
  simp [encode_nil, crlf]

set_option maxHeartbeats 400000 in
theorem law19_sane (w : World) : Calls Try.prog 4 #[] w fun e w' => e = .returned (.bool true) ∧ Below w.heap.size w w' := by
  have a1 : chunked [51, 13, 10, 97, 98, 99, 13, 10, 48, 13, 10, 13, 10] 9 = ([97, 98, 99], 0) := by decide +kernel
  have a2 : (chunked [51, 13, 10, 97, 98] 9).2 = 191 := by decide +kernel
  have a3 : (chunked [103, 13, 10] 9).2 = 190 := by decide +kernel
  have A1 := hid a1
  have A2 := hid a2
  have A3 := hid a3
  clear a1 a2 a3
  go_enter Try.func4, Try.ntmps4
  go_wp2_with fail
  refine (body_Chunked _ 9 _ (by decide) (by decide) (by decide)).mono ?_
  rintro e w1 ⟨rfl, hw1⟩
  rw [A1.out]
  go_wp2_with fail
  refine (body_Chunked _ 9 _ (by decide) (by decide) (by decide)).mono ?_
  rintro e w2 ⟨rfl, hw2⟩
  rw [A2.out]
  go_wp2_with fail
  refine (body_Chunked _ 9 _ (by decide) (by decide) (by decide)).mono ?_
  rintro e w3 ⟨rfl, hw3⟩
  rw [A3.out]
  go_wp2_with fail
  refine (body_Encode _ 2 _ (by decide) (by decide) (by decide)).mono ?_
  rintro e w4 ⟨rfl, hw4⟩
  rw [enc_abc]
  go_wp2_with fail
  go_ret
  exact ⟨rfl, below_all hw1 (below_all hw2 (below_all hw3 hw4))⟩

end Go.Proofs.Ytjponbpdlioocaa
