/- The library's contracts on strings, over byte lists. -/
import Derived.Test.YthonlmejcnpgcaaBase
import Derived.Test.YthonlmejcnpgcaaShelf
namespace Go.Proofs.Ythonlmejcnpgcaa
open Go.RowKit Wf
theorem s_IndexByte (l : Bytes) (c : UInt8) (w : World) :
    Calls Try.prog 21 #[(Value.string ⟨List.toArray (l)⟩), .int .u8 c.toNat] w fun e w' => e = .returned (.int .i64 (Lib.indexByte l c)) ∧ w = w' := by
  refine (Try.strings_IndexByte ⟨List.toArray l⟩ c.toNat w).mono ?_
  rintro e w' ⟨rfl, rfl⟩
  exact ⟨by rw [show ((c.toNat : Int)).toNat.toUInt8 = c from by simp], rfl⟩
theorem s_HasPrefix (l p : Bytes) (w : World) :
    Calls Try.prog 23 #[(Value.string ⟨List.toArray (l)⟩), (Value.string ⟨List.toArray (p)⟩)] w fun e w' => e = .returned (.bool (Lib.hasPrefix l p)) ∧ w = w' := by
  refine (Try.strings_HasPrefix ⟨List.toArray l⟩ ⟨List.toArray p⟩ w).mono ?_
  rintro e w' ⟨rfl, rfl⟩
  exact ⟨rfl, rfl⟩
end Go.Proofs.Ythonlmejcnpgcaa
