/- The walks of the reference of package host. -/
import Derived.Test.YtnncgbamppaacaaDoorHost2
import Derived.Test.YtnncgbamppaacaaDoorOwn
set_option linter.all false
namespace Go.Proofs.YtnncgbamppaacaaDoor
open Go.RowKit Go.Sort Wf
attribute [local go_sem] ex_list app_list get_list

/-- A slice of strings in new memory is returned. -/
def RetStrs (w : World) (l : List Bytes) (e : Ending) (w' : World) : Prop := ∃ v, e = .returned v ∧ w'.ownsRow w.heap.size 9 1 v l.length (l.map strV) ∧ Below w.heap.size w w'

theorem Tryd.infoStr : (Tryd.prog.info? 9).map (fun i => (i.zero, i.size, i.bytes)) = some (some (Value.string ⟨List.toArray ([])⟩), 1, 16) := by kernel_rfl
set_option maxHeartbeats 1000000 in
theorem ref01_Split (s : Bytes) (c : UInt8) (w : World) (hs : s.length ≤ 1000000000) :
    Calls Tryd.prog 43 #[(Value.string ⟨List.toArray (s)⟩), .int .u8 c.toNat] w (RetStrs w (splitC c s)) := by
  go_enter Tryd.func43, Tryd.ntmps43
  go_wp2_with fail
  go_loopw [5, 6, 7] (fun v f i wr => ∃ (L : List Bytes) (a k : Nat), f = .int .i64 a ∧ i = .int .i64 k ∧ a ≤ k ∧ k ≤ s.length ∧ k - a ≤ pre (· == c) (s.drop a) ∧ wr.ownsRow w.heap.size 9 1 v L.length (L.map strV) ∧ L.length ≤ a ∧ L ++ splitC c (s.drop a) = splitC c s ∧ Below w.heap.size w wr) (fun _ _ i _ => s.length - (intOf i).toNat)
  case atStart => exact ⟨[], 0, 0, rfl, rfl, by omega, by omega, by omega, World.ownsRow_nil _ _ _ _, by simp, rfl, Below.refl _ _⟩
  case round =>
    obtain ⟨L, a, k, rfl, rfl, hak, hks, hpre, hown, hLa, heq, hw⟩ := hrel
    have Hown := hid hown
    have Heq := hid heq
    have Hw := hid hw
    have Hpre := hid hpre
    clear hown heq hw hpre
    by_cases hlt : k < s.length
    · have hdl : (s.drop a).length = s.length - a := by simp
      by_cases hc : s[k] = c
      · have hx := u8_eq hc
        have hp : pre (· == c) (s.drop a) = k - a := by
          have h1 := Hpre.out
          rcases Nat.lt_or_ge (k - a) (pre (· == c) (s.drop a)) with h | h
          · have := pre_get h (by omega)
            rw [List.getElem_drop] at this
            simp only [show a + (k - a) = k by omega] at this
            rw [hc] at this
            simp at this
          · omega
        have hh : splitC c (s.drop a) = (s.drop a).take (k - a) :: splitC c (s.drop (k + 1)) := by
          have := splitC_hit (c := c) (s := s.drop a) (by omega)
          rw [hp, List.drop_drop, show a + (k - a + 1) = k + 1 by omega] at this
          exact this
        have hsl : List.drop a (List.take k s) = (s.drop a).take (k - a) := by rw [List.drop_take]
        have Hn : Hid ((L ++ [List.drop a (List.take k s)]) ++ splitC c (s.drop (k + 1)) = splitC c s) := hid (by rw [← Heq.out, hh, hsl]; simp)
        clear hc hp hh hsl hdl
        have hwl := hid (Hw.out.size)
        go_wp2_with (at_builtin; refine wp_append_one rfl _ _ 55 rfl 9 (Value.string ⟨List.toArray ([])⟩) 16 Tryd.underlying55 Tryd.infoStr rfl w.heap.size _ L.length (L.map strV) rfl Hown.out (strV (List.drop a (List.take k s))) _ rfl rfl (by unfold maxLen; omega) (by omega) hwl.out ?_; intro v' w' hown' hb')
        go_roundw
        case rel => exact ⟨L ++ [List.drop a (List.take k s)], k + 1, k + 1, by go_num, by go_num, by omega, by omega, by omega, by simpa using hown', by simp; omega, Hn.out, Hw.out.trans hb'⟩
        case measure => simp [intOf]; omega
      · have hx := u8_ne hc
        have Hp : Hid (k + 1 - a ≤ pre (· == c) (s.drop a)) := hid (by
          have h1 := Hpre.out
          rcases Nat.lt_or_ge (k - a) (pre (· == c) (s.drop a)) with h | h
          · omega
          · have hq : pre (· == c) (s.drop a) = k - a := by omega
            have := pre_at (p := (· == c)) (l := s.drop a) (by omega)
            simp only [hq, List.getElem_drop, show a + (k - a) = k by omega] at this
            exact absurd (by simpa using this) hc)
        clear hc hdl
        go_wp2_with fail
        go_roundw
        case rel => exact ⟨L, a, k + 1, rfl, by go_num, by omega, by omega, Hp.out, Hown.out, by omega, Heq.out, Hw.out⟩
        case measure => simp [intOf]; omega
    · have hm := splitC_miss (c := c) (s := s.drop a) (by have := Hpre.out; simp; omega)
      have Hn : Hid (L ++ [s.drop a] = splitC c s) := hid (by rw [← Heq.out, hm])
      clear hm
      have hwl := hid (Hw.out.size)
      go_wp2_with (at_builtin; refine wp_append_one rfl _ _ 55 rfl 9 (Value.string ⟨List.toArray ([])⟩) 16 Tryd.underlying55 Tryd.infoStr rfl w.heap.size _ L.length (L.map strV) rfl Hown.out (strV (s.drop a)) _ rfl rfl (by unfold maxLen; omega) (by omega) hwl.out ?_; intro v' w' hown' hb')
      go_ret
      exact ⟨v', rfl, by rw [← Hn.out]; simpa using hown', Hw.out.trans hb'⟩
end Go.Proofs.YtnncgbamppaacaaDoor
