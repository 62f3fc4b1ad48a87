/- The walks of the reference of package host: hosts, ports, texts. -/
import Derived.Test.YtnpkjglcbolcbaaDoorRefHost
set_option linter.all false
namespace Go.Proofs.YtnpkjglcbolcbaaDoor
open Go.RowKit Go.Sort Wf
attribute [local go_sem] ex_list app_list get_list

set_option maxHeartbeats 1000000 in
theorem ref05_Host (s : Bytes) (w : World) (hs : s.length ≤ 1000000000) :
    Calls Tryd.prog 66 #[(Value.string ⟨List.toArray (s)⟩)] w fun e w' => e = .returned (.tuple #[(Value.string ⟨List.toArray ((hostM s).1)⟩), .int .i64 (hostM s).2]) ∧ Below w.heap.size w w' := by
  cases h1 : s.isEmpty
  · by_cases h2 : 253 < s.length
    · have Hq := hid (show hostM s = ([], 5) by unfold hostM; simp [h1, h2])
      go_enter Tryd.func66, Tryd.ntmps66
      go_wp2_with fail
      go_ret2
      rw [Hq.out]
      exact ⟨rfl, Below.refl _ _⟩
    · cases h3 : ipv4 s
      · cases h4 : nameOk s
        · have Hq := hid (show hostM s = ([], 50) by unfold hostM; simp [h1, h2, h3, h4])
          go_enter Tryd.func66, Tryd.ntmps66
          go_wp2_with (first
            | (go_at_call 75; refine (ref05_IsIPv4 _ _ hs).mono ?_; rintro e w1 ⟨rfl, hw1⟩)
            | (go_at_call 113; refine (ref05_name _ _ hs).mono ?_; rintro e w2 ⟨rfl, hw2⟩))
          go_ret2
          rw [Hq.out]
          exact ⟨rfl, below_all ‹_› ‹_›⟩
        · have Hq := hid (show hostM s = (lower s, 0) by unfold hostM; simp [h1, h2, h3, h4])
          go_enter Tryd.func66, Tryd.ntmps66
          go_wp2_with (first
            | (go_at_call 75; refine (ref05_IsIPv4 _ _ hs).mono ?_; rintro e w1 ⟨rfl, hw1⟩)
            | (go_at_call 113; refine (ref05_name _ _ hs).mono ?_; rintro e w2 ⟨rfl, hw2⟩)
            | (go_at_call 111; refine (ref01_Lower _ _ (by omega)).mono ?_; rintro e w3 ⟨rfl, hw3⟩))
          go_ret2
          rw [Hq.out]
          exact ⟨rfl, below_all (below_all hw1 hw2) hw3⟩
      · have Hq := hid (show hostM s = (lower s, 0) by unfold hostM; simp [h1, h2, h3])
        go_enter Tryd.func66, Tryd.ntmps66
        go_wp2_with (first
          | (go_at_call 75; refine (ref05_IsIPv4 _ _ hs).mono ?_; rintro e w1 ⟨rfl, hw1⟩)
          | (go_at_call 111; refine (ref01_Lower _ _ (by omega)).mono ?_; rintro e w3 ⟨rfl, hw3⟩))
        go_ret2
        rw [Hq.out]
        exact ⟨rfl, below_all hw1 hw3⟩
  · have Hq := hid (show hostM s = ([], 3) by unfold hostM; simp [h1])
    go_enter Tryd.func66, Tryd.ntmps66
    go_wp2_with fail
    go_ret2
    rw [Hq.out]
    exact ⟨rfl, Below.refl _ _⟩
end Go.Proofs.YtnpkjglcbolcbaaDoor
