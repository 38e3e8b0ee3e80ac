/- The library's contracts that the kit has proved once: strings.IndexByte. -/
import Derived.Shelf.Small.Strs
import Derived.Test.YtkebkhgjoiiapaaProg
namespace Go.Proofs.Ytkebkhgjoiiapaa
open Go.Shelf

def lays137_ren : Go.Shelf.Ren := ⟨fun | 137 => 61 | 217 => 82 | 266 => 86 | n => n, fun | 9 => 9 | 5 => 5 | 3 => 3 | n => n, fun | n => n⟩
theorem lays137 : Go.Proofs.Lays.n137 Try.prog lays137_ren where
  mixed := by kernel_rfl
  f137 := Try.func61.trans (congrArg some (by kernel_rfl))
  f217 := Try.func82.trans (congrArg some (by kernel_rfl))
  f266 := Try.func86.trans (congrArg some (by kernel_rfl))
  t3 := Try.underlying3
  a3 := Try.isAgg3
  z3 := Try.sizeOf3
  v3 := Try.zeroValue3
  t5 := Try.underlying5
  a5 := Try.isAgg5
  z5 := Try.sizeOf5
  v5 := Try.zeroValue5
  t9 := Try.underlying9
  a9 := Try.isAgg9
  z9 := Try.sizeOf9
  v9 := Try.zeroValue9
open Go.RowKit in
theorem indexByte_any (s : ByteArray) (c : Int) (w : World) :
    Calls Try.prog 61 #[.string s, .int .u8 c] w fun e w' => e = .returned (.int .i64 (Lib.indexByte s.data.toList c.toNat.toUInt8)) ∧ w' = w := Any.strings_IndexByte lays137 s c w
end Go.Proofs.Ytkebkhgjoiiapaa
