/- The library's contracts on strings, for the calculus of conditions. -/
import Derived.Test.YtnncgbamppaacaaDoorV
import Derived.Test.YtnncgbamppaacaaDoorVc7
import Derived.Test.YtnncgbamppaacaaDoorIdxAny
import Derived.Test.YtnncgbamppaacaaDoorAscii2
set_option linter.all false
namespace Go.Proofs.YtnncgbamppaacaaDoor
open Go Vc Go.RowKit Wf
theorem below_draws {w w' : World} (h : ∃ n, w' = w.drewN n) : Below w.heap.size w w' := by
  obtain ⟨n, rfl⟩ := h
  exact below_drewN (Below.refl _ _) _
theorem below_same {w w' : World} (h : w = w') : Below w.heap.size w w' := by subst h; exact Below.refl _ _
theorem p_IndexByte (l : Bytes) (c : UInt8) : PC Tryd.V 46 [.str l, .int .u8 c.toNat] (.int .i64 (Lib.indexByte l c)) :=
  ⟨Tryd.call46, by simp [flat, flat.flatL], by simp [flat, flat.flatL], fun w hE => (s_IndexByte l c w).mono fun _ _ ⟨h, k⟩ => ⟨h, below_same k⟩⟩
theorem p_HasPrefix (l p : Bytes) : PC Tryd.V 49 [.str l, .str p] (.bool (Lib.hasPrefix l p)) :=
  ⟨Tryd.call49, by simp [flat, flat.flatL], by simp [flat, flat.flatL], fun w hE => (s_HasPrefix l p w).mono fun _ _ ⟨h, k⟩ => ⟨h, below_same k⟩⟩
theorem p_CutPrefix (l p : Bytes) : PC Tryd.V 36 [.str l, .str p] (.tup [.str (Lib.trimPrefix l p), .bool (Lib.hasPrefix l p)]) :=
  ⟨Tryd.call36, by simp [flat, flat.flatL], by simp [flat, flat.flatL], fun w hE => (s_CutPrefix l p w).mono fun _ _ ⟨h, k⟩ => ⟨h, below_same k⟩⟩
theorem p_Cut (l : Bytes) (c : UInt8) (hl : l.length < 4294967281) : PC Tryd.V 37 [.str l, .str [c]] (.tup [.str (cutC c l).1, .str (cutC c l).2.1, .bool (cutC c l).2.2]) :=
  ⟨Tryd.call37, by simp [flat, flat.flatL], by simp [flat, flat.flatL], fun w hE => (s_Cut l c w hE hl).mono fun _ _ ⟨h, k⟩ => ⟨h, below_draws k⟩⟩
theorem p_IndexAny (s l : Bytes) (ha : ∀ i (h : i < l.length), l[i].toNat < 128) (hl : l.length ≤ 1000000) (h2 : 2 ≤ l.length) (hs : s.length < 4294967281) :
    PC Tryd.V 87 [.str s, .str l] (.int .i64 (Lib.indexAny s l)) :=
  ⟨Tryd.call87, by simp [flat, flat.flatL], by simp [flat, flat.flatL], fun w hE => strings_IndexAny s l w ha hl h2 hs⟩
theorem hp_no {p q : Bytes} (h : Lib.hasPrefix p q = false) : ¬ (q.isPrefixOf p = true) := by unfold Lib.hasPrefix at h; simp [h]
theorem hp_len {p q : Bytes} (h : Lib.hasPrefix p q = true) : q.length ≤ p.length := (List.isPrefixOf_iff_prefix.1 h).length_le
theorem trim_len (s p : Bytes) : (Lib.trimPrefix s p).length ≤ s.length := by
  unfold Lib.trimPrefix; split <;> simp
theorem byte_is {s : Bytes} {k : Nat} (hk : k < s.length) (c : UInt8) {n : Int} (hn : n = c.toNat) : (((s.getD k 0).toNat : Int) == n) = (s[k] == c) := by
  subst hn
  rw [show s.getD k 0 = s[k] by simp [List.getD, hk], Bool.eq_iff_iff]
  simp only [beq_iff_eq]
  exact ⟨fun h => UInt8.toNat_inj.1 (by exact_mod_cast h), fun h => by rw [h]⟩
theorem one_u8 (l : Bytes) : (l.map u8S).all Vc.one = true := by simp [u8S, Vc.one]
end Go.Proofs.YtnncgbamppaacaaDoor
