/- The library's contracts on strings, for the calculus of conditions. -/
import Derived.Test.YtnpkjglcbolcbaaDoorV
import Derived.Test.YtnpkjglcbolcbaaDoorVc7
import Derived.Test.YtnpkjglcbolcbaaDoorIdxAny
import Derived.Test.YtnpkjglcbolcbaaDoorAscii2
set_option linter.all false
namespace Go.Proofs.YtnpkjglcbolcbaaDoor
open Go Vc Go.RowKit Wf
theorem below_draws {w w' : World} (h : ∃ n, w' = w.drewN n) : Below w.heap.size w w' := by
  obtain ⟨n, rfl⟩ := h
  exact below_drewN (Below.refl _ _) _
theorem below_same {w w' : World} (h : w = w') : Below w.heap.size w w' := by subst h; exact Below.refl _ _
theorem p_IndexByte (l : Bytes) (c : UInt8) : PC Tryd.V 70 [.str l, .int .u8 c.toNat] (.int .i64 (Lib.indexByte l c)) :=
  ⟨Tryd.call70, by simp [flat, flat.flatL], by simp [flat, flat.flatL], fun w hE => (s_IndexByte l c w).mono fun _ _ ⟨h, k⟩ => ⟨h, below_same k⟩⟩
theorem p_HasPrefix (l p : Bytes) : PC Tryd.V 97 [.str l, .str p] (.bool (Lib.hasPrefix l p)) :=
  ⟨Tryd.call97, by simp [flat, flat.flatL], by simp [flat, flat.flatL], fun w hE => (s_HasPrefix l p w).mono fun _ _ ⟨h, k⟩ => ⟨h, below_same k⟩⟩
theorem p_CutPrefix (l p : Bytes) : PC Tryd.V 89 [.str l, .str p] (.tup [.str (Lib.trimPrefix l p), .bool (Lib.hasPrefix l p)]) :=
  ⟨Tryd.call89, by simp [flat, flat.flatL], by simp [flat, flat.flatL], fun w hE => (s_CutPrefix l p w).mono fun _ _ ⟨h, k⟩ => ⟨h, below_same k⟩⟩
theorem p_TrimPrefix (l p : Bytes) : PC Tryd.V 105 [.str l, .str p] (.str (Lib.trimPrefix l p)) :=
  ⟨Tryd.call105, by simp [flat, flat.flatL], by simp [flat, flat.flatL], fun w hE => (s_TrimPrefix l p w).mono fun _ _ ⟨h, k⟩ => ⟨h, below_same k⟩⟩
theorem p_Cut (l : Bytes) (c : UInt8) (hl : l.length < 4294967281) : PC Tryd.V 67 [.str l, .str [c]] (.tup [.str (cutC c l).1, .str (cutC c l).2.1, .bool (cutC c l).2.2]) :=
  ⟨Tryd.call67, by simp [flat, flat.flatL], by simp [flat, flat.flatL], fun w hE => (s_Cut l c w hE hl).mono fun _ _ ⟨h, k⟩ => ⟨h, below_draws k⟩⟩
theorem p_IndexAny (s l : Bytes) (ha : ∀ i (h : i < l.length), l[i].toNat < 128) (hl : l.length ≤ 1000000) (h2 : 2 ≤ l.length) (hs : s.length < 4294967281) :
    PC Tryd.V 98 [.str s, .str l] (.int .i64 (Lib.indexAny s l)) :=
  ⟨Tryd.call98, by simp [flat, flat.flatL], by simp [flat, flat.flatL], fun w hE => strings_IndexAny s l w ha hl h2 hs⟩
def lastB (s : Bytes) (c : UInt8) : Int := Lib.lastIndexByte ⟨List.toArray s⟩ c.toNat
theorem lastB_eq (s : Bytes) (c : UInt8) : lastB s c = ((s.reverse.dropWhile (· != c)).length : Int) - 1 := by
  have h : ∀ k, k ≤ s.length → Lib.lastIdx ⟨List.toArray s⟩ c.toNat k = (((s.take k).reverse.dropWhile (· != c)).length : Int) - 1 := by
    intro k
    induction k with
    | zero => intro _; simp [Lib.lastIdx]
    | succ k ih =>
      intro hk
      have hk' : k < s.length := by omega
      have e : (⟨List.toArray s⟩ : ByteArray).data[k]! = s[k] := by simp [hk']
      rw [List.take_succ_eq_append_getElem hk', List.reverse_append, List.reverse_singleton, List.singleton_append, Lib.lastIdx, e]
      by_cases hc : s[k] = c
      · rw [if_pos (by rw [hc]), List.dropWhile_cons_of_neg (by simp [hc])]
        simp
        omega
      · rw [if_neg (fun h => hc (UInt8.toNat_inj.1 (by exact_mod_cast h))), List.dropWhile_cons_of_pos (by simp [hc]), ih (by omega)]
  have := h s.length (Nat.le_refl _)
  rw [List.take_length] at this
  exact this
theorem p_LastIndexByte (s : Bytes) (c : UInt8) (hs : s.length < 4611686018427387904) : PC Tryd.V 106 [.str s, .int .u8 c.toNat] (.int .i64 (lastB s c)) :=
  ⟨Tryd.call106, by simp [flat, flat.flatL], by simp [flat, flat.flatL], fun w hE => (Tryd.strings_LastIndexByte ⟨List.toArray s⟩ c.toNat hs w).mono fun _ _ ⟨h, k⟩ => ⟨h, below_same k.symm⟩⟩
theorem hp_no {p q : Bytes} (h : Lib.hasPrefix p q = false) : ¬ (q.isPrefixOf p = true) := by unfold Lib.hasPrefix at h; simp [h]
theorem hp_len {p q : Bytes} (h : Lib.hasPrefix p q = true) : q.length ≤ p.length := (List.isPrefixOf_iff_prefix.1 h).length_le
theorem trim_len (s p : Bytes) : (Lib.trimPrefix s p).length ≤ s.length := by
  unfold Lib.trimPrefix; split <;> simp
theorem byte_is {s : Bytes} {k : Nat} (hk : k < s.length) (c : UInt8) {n : Int} (hn : n = c.toNat) : (((s.getD k 0).toNat : Int) == n) = (s[k] == c) := by
  subst hn
  rw [show s.getD k 0 = s[k] by simp [List.getD, hk], Bool.eq_iff_iff]
  simp only [beq_iff_eq]
  exact ⟨fun h => UInt8.toNat_inj.1 (by exact_mod_cast h), fun h => by rw [h]⟩
theorem one_u8 (l : Bytes) : (l.map u8S).all Vc.one = true := by simp [u8S, Vc.one]
end Go.Proofs.YtnpkjglcbolcbaaDoor
