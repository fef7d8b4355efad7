/- A start at which the listed variables hold what their initialisers lay. -/
import Derived.Test.YtbigllcononkbaaDoorCards
import Derived.Test.YtbigllcononkbaaDoorTie
import Derived.Test.YtbigllcononkbaaDoorC7
import Derived.Deep.DeepHandedRow
import Derived.Deep.DeepWitnessRowRef
import Derived.Lib.LaidIn
import Derived.Lib.LaidU8
import Derived.Lib.LaidTab
import Derived.Stop.LaidErr
import Derived.Shelf.Vars
import Derived.ProofKit
import Derived.OpenShut
namespace Go.Proofs.YtbigllcononkbaaDoor
open Go Go.ChangeShapes Go.WideShapes Go.ChangeAt Go.RowKit

theorem own : ownKnob Tryd.prog.godebug = none := by kernel_rfl
def tab32 : List Int := [0, 1, 28, 2, 29, 14, 24, 3, 30, 22, 20, 15, 25, 17, 4, 8, 31, 27, 13, 23, 21, 19, 16, 7, 26, 12, 18, 6, 11, 5, 10, 9]
def tab64 : List Int := [0, 1, 56, 2, 57, 49, 28, 3, 61, 58, 42, 50, 38, 29, 17, 4, 62, 47, 59, 36, 45, 43, 51, 22, 53, 39, 33, 30, 24, 18, 12, 5, 63, 55, 48, 27, 60, 41, 37, 16, 46, 35, 44, 21, 52, 32, 23, 11, 54, 26, 40, 15, 34, 20, 31, 10, 25, 14, 19, 9, 13, 8, 7, 6]
def tabAcc : List Int := [128, 191, 160, 191, 128, 159, 144, 191, 128, 143, 0, 0, 0, 0, 0, 0, 0, 0, 0, 0, 0, 0, 0, 0, 0, 0, 0, 0, 0, 0, 0, 0]
def tabWhite : List Int := [9, 13, 1, 32, 133, 101, 160, 5760, 5600, 8192, 8202, 1, 8232, 8233, 1, 8239, 8287, 48, 12288, 12288, 1]
def textRange : List UInt8 := [118, 97, 108, 117, 101, 32, 111, 117, 116, 32, 111, 102, 32, 114, 97, 110, 103, 101]
def textSyntax : List UInt8 := [105, 110, 118, 97, 108, 105, 100, 32, 115, 121, 110, 116, 97, 120]
/-- A start that holds the listed variables. -/
noncomputable def laidWorld (os : Os) : World :=
  let N := (World.settled Tryd.prog os).heap.size
  let w0 := World.holding Tryd.prog os ⟨#[
    .cells #[.string ⟨textRange.toArray⟩] 179, .cells #[.string ⟨textSyntax.toArray⟩] 179,
    .cells (tabWhite.map (Value.int .u16)).toArray 139, .cells #[.slice (some ⟨N + 2, 0, none⟩) 7 7, .slice none 0 0, .int .i64 2] 136], #[], []⟩
  let put (h : Array Obj) (g : Nat) (cs : Array Value) : Array Obj := h.modify g fun
    | .cells _ t frozen => .cells cs t frozen
    | o => o
  let h1 := put (put (put w0.heap 5 (tab32.map (Value.int .u8)).toArray) 6 (tab64.map (Value.int .u8)).toArray) 3 (Lib.pow10Tab.map (Value.int .u64)).toArray
  let h2 := put (put (put h1 8 (tabAcc.map (Value.int .u8)).toArray) 1 (shapeTab.map fun (z : Nat) => Value.int .u8 z).toArray) 10 #[.iface 177 (.pointer (some ⟨N, 0, none⟩))]
  let h3 := put (put (put h2 9 #[.iface 177 (.pointer (some ⟨N + 1, 0, none⟩))]) 2 #[.pointer (some ⟨N + 3, 0, none⟩)]) 0 (Lib.asciiSpaceTab.map (Value.int .u8)).toArray
  { w0 with heap := put h3 7 (Go.Pinned.utf8FirstZ.map fun (z : Nat) => Value.int .u8 z).toArray }
noncomputable abbrev N0 : Nat := (World.settled Tryd.prog default).heap.size
def laidL : List (String × DataW Unit) := [("math/bits.deBruijn32tab", Rows.laid_math_bits_deBruijn32tab), ("math/bits.deBruijn64tab", Rows.laid_math_bits_deBruijn64tab), ("internal/strconv.uint64pow10", Rows.laid_internal_strconv_uint64pow10), ("unicode/utf8.acceptRanges", Rows.laid_unicode_utf8_acceptRanges), ("carousel/code.shapes", Rows.laid_carousel_code_shapes), ("strconv.ErrRange", Rows.laid_strconv_ErrRange), ("strconv.ErrSyntax", Rows.laid_strconv_ErrSyntax), ("unicode.White_Space", Rows.laid_unicode_White_Space), ("strings.asciiSpace", Rows.laid_strings_asciiSpace), ("unicode/utf8.first", Rows.laid_unicode_utf8_first)]
set_option maxRecDepth 1000000 in
theorem laid_in (os : Os) (args : Array Value) : LaidIn Tryd.prog ((laidWorld os).forCall (fun _ _ => 0) ⟨#[], args, []⟩).memory laidL [0, 1, 2, 3, 4, 5, 6, 7, 8, 9, 10, 11, N0, N0 + 1, N0 + 2, N0 + 3] :=
  LaidIn.of_run [0, 1, 2, 3, 4, 5, 6, 7, 8, 9, 10, 11, N0, N0 + 1, N0 + 2, N0 + 3] 10 (by kernel_rfl) (by kernel_rfl) (by kernel_rfl) (by kernel_rfl)
theorem laid_met (os : Os) (args : Array Value) : laidMetH Tryd.prog laidL ((laidWorld os).forCall (fun _ _ => 0) ⟨#[], args, []⟩).memory := (laid_in os args).met
end Go.Proofs.YtbigllcononkbaaDoor
