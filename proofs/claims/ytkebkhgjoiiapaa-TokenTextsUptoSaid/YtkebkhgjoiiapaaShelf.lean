/- The library's contracts that the kit has proved once: strings.IndexByte. -/
import Derived.Shelf.Lay
import Derived.Shelf.LaySoft
import Derived.Shelf.Small.Strs
import Derived.Test.YtkebkhgjoiiapaaProg
namespace Go.Proofs.Ytkebkhgjoiiapaa
open Go.Shelf

shelf_lay Lays.n137 Nm 137 at Try as lays137
open Go.RowKit in
theorem indexByte_any (s : ByteArray) (c : Int) (w : World) :
    Calls Try.prog 61 #[.string s, .int .u8 c] w fun e w' => e = .returned (.int .i64 (Lib.indexByte s.data.toList c.toNat.toUInt8)) ∧ w' = w := Any.strings_IndexByte lays137 s c w
end Go.Proofs.Ytkebkhgjoiiapaa
