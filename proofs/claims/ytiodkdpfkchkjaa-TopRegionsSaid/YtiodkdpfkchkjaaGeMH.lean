/- The Go functions as plain functions; written by a program out of the translation. -/
import Derived.Test.YtiodkdpfkchkjaaGeMA
set_option linter.unusedVariables false
set_option linter.unusedSimpArgs false
set_option linter.unusedSectionVars false
namespace Go.SM
open Go Go.VI
noncomputable def bits_Len64_k1 : (Int × Int) → Option (Int) := fun j3 =>
  (sidx (ByteArray.mk #[0, 1, 2, 2, 3, 3, 3, 3, 4, 4, 4, 4, 4, 4, 4, 4, 5, 5, 5, 5, 5, 5, 5, 5, 5, 5, 5, 5, 5, 5, 5, 5, 6, 6, 6, 6, 6, 6, 6, 6, 6, 6, 6, 6, 6, 6, 6, 6, 6, 6, 6, 6, 6, 6, 6, 6, 6, 6, 6, 6, 6, 6, 6, 6, 7, 7, 7, 7, 7, 7, 7, 7, 7, 7, 7, 7, 7, 7, 7, 7, 7, 7, 7, 7, 7, 7, 7, 7, 7, 7, 7, 7, 7, 7, 7, 7, 7, 7, 7, 7, 7, 7, 7, 7, 7, 7, 7, 7, 7, 7, 7, 7, 7, 7, 7, 7, 7, 7, 7, 7, 7, 7, 7, 7, 7, 7, 7, 7, 8, 8, 8, 8, 8, 8, 8, 8, 8, 8, 8, 8, 8, 8, 8, 8, 8, 8, 8, 8, 8, 8, 8, 8, 8, 8, 8, 8, 8, 8, 8, 8, 8, 8, 8, 8, 8, 8, 8, 8, 8, 8, 8, 8, 8, 8, 8, 8, 8, 8, 8, 8, 8, 8, 8, 8, 8, 8, 8, 8, 8, 8, 8, 8, 8, 8, 8, 8, 8, 8, 8, 8, 8, 8, 8, 8, 8, 8, 8, 8, 8, 8, 8, 8, 8, 8, 8, 8, 8, 8, 8, 8, 8, 8, 8, 8, 8, 8, 8, 8, 8, 8, 8, 8, 8, 8, 8, 8, 8, 8, 8, 8, 8, 8, 8, 8, 8, 8, 8, 8, 8, 8, 8, 8, 8, 8, 8, 8]) (IntKind.wrap .u8 j3.1)).bind fun x5 => some (iadd j3.2 (IntKind.wrap .i64 x5))
noncomputable def bits_Len64_k2 : (Int × Int) → Option (Int) := fun j2 =>
  if (decide (j2.1 ≥ 256)) then (bits_Len64_k1 ((Int.fdiv j2.1 (2 ^ (min (Int.toNat 8) 64))), (iadd j2.2 8))) else (bits_Len64_k1 (j2.1, j2.2))
noncomputable def bits_Len64_k3 : (Int × Int) → Option (Int) := fun j1 =>
  if (decide (j1.1 ≥ 65536)) then (bits_Len64_k2 ((Int.fdiv j1.1 (2 ^ (min (Int.toNat 16) 64))), (iadd j1.2 16))) else (bits_Len64_k2 (j1.1, j1.2))
noncomputable def bits_Len64 (x0 : Int) : Option (Int) :=
  if (decide (x0 ≥ 4294967296)) then (bits_Len64_k3 ((Int.fdiv x0 (2 ^ (min (Int.toNat 32) 64))), 32)) else (bits_Len64_k3 (x0, 0))
noncomputable def bits_Len (x0 : Int) : Option (Int) :=
  (bits_Len64 x0).bind fun r2 => some r2
noncomputable def slices_nextPowerOfTwo (length : Int) : Option (Int) :=
  (bits_Len (IntKind.wrap .u64 length)).bind fun r2 => if (decide (0 ≤ r2)) then (some (IntKind.wrap .u64 (1 * 2 ^ (min (Int.toNat r2) 64)))) else none
noncomputable def slices_xorshift_Next (h0_0 : Int) : Option (Int) :=
  some (kxor .u64 (kxor .u64 (kxor .u64 h0_0 (IntKind.wrap .u64 (h0_0 * 2 ^ (min (Int.toNat 13) 64)))) (Int.fdiv (kxor .u64 h0_0 (IntKind.wrap .u64 (h0_0 * 2 ^ (min (Int.toNat 13) 64)))) (2 ^ (min (Int.toNat 7) 64)))) (IntKind.wrap .u64 ((kxor .u64 (kxor .u64 h0_0 (IntKind.wrap .u64 (h0_0 * 2 ^ (min (Int.toNat 13) 64)))) (Int.fdiv (kxor .u64 h0_0 (IntKind.wrap .u64 (h0_0 * 2 ^ (min (Int.toNat 13) 64)))) (2 ^ (min (Int.toNat 7) 64)))) * 2 ^ (min (Int.toNat 17) 64))))
end Go.SM
