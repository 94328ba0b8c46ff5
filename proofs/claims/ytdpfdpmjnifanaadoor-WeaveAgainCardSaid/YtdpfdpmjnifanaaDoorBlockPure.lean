/- A title's block, on bytes. -/
import Derived.Test.YtdpfdpmjnifanaaDoorTitlePure
namespace Go.Sb
open Go Go.RowKit
set_option linter.unusedSimpArgs false
set_option linter.unusedVariables false
def openB : List UInt8 := [83, 116, 114, 101, 97, 109, 84, 105, 116, 108, 101, 61, 39]
def shutB : List UInt8 := [39, 59]
/-- The block whose text is 'StreamTitle='..';', filled up. -/
def blockOf (t : List UInt8) : List UInt8 :=
  [UInt8.ofNat ((t.length + 30) / 16)] ++ (openB ++ t ++ shutB) ++ List.replicate ((t.length + 30) / 16 * 16 - (t.length + 15)) 0
def blockF (s : List UInt8) : List UInt8 := blockOf (titleF s)
theorem blockOf_len (t : List UInt8) : (blockOf t).length = 1 + (t.length + 30) / 16 * 16 := by
  simp [blockOf, openB, shutB]; omega
theorem bytesV_replicate (n : Nat) : bytesV (List.replicate n 0) = List.replicate n (.int .u8 0) := by simp [bytesV]
end Go.Sb
