/-
  Texts of Go's, as lists of bytes: read, cut, put together.
-/
import Derived.Test.YtcpkkaimingnlaaGreatDoorProg
import Derived.Test.YtcpkkaimingnlaaGreatDoorKit
import Derived.Test.YtcpkkaimingnlaaGreatDoorLkh
namespace Go.Proofs.YtcpkkaimingnlaaGreatDoor
open Go.RowKit

def u8v (c : UInt8) : Value := .int .u8 ((c.toNat : Nat) : Int)
def bs (l : Bs) : ByteArray := ⟨l.toArray⟩
theorem bs_cat (a b : Bs) : bs a ++ bs b = bs (a ++ b) := by unfold bs; apply ByteArray.ext; rw [ByteArray.data_append]; simp
theorem bs_size (a : Bs) : (bs a).size = a.length := by simp [bs, ByteArray.size]
theorem bs_toList (l : Bs) : (bs l).toList = l := by rw [ByteArray.toList_eq]; rfl
theorem eq_bs (l k : Bs) : ((bs l).toList == k) = (l == k) := by rw [bs_toList]
theorem str_byte (l : Bs) (i : Nat) (h : i < l.length) (w : World) : (Instr.index 9 (.string (bs l)) (.int .i64 (i : Int))).run Tryz.prog w = .ok (.int .u8 (((l.getD i 0).toNat : Nat) : Int)) w := by
  rw [run_index_string _ _ _ _ _ Tryz.underlying9]
  have hs : (bs l).size = l.length := bs_size l
  rw [dif_pos ⟨by omega, by rw [hs]; omega⟩]
  have e : ((bs l)[(i : Int).toNat]'(by rw [hs]; omega)) = l.getD i 0 := by
    show l.toArray[(i : Int).toNat]'_ = _
    simp [h]
  rw [e]
theorem str_from (l : Bs) (m : Nat) (h : m ≤ l.length) (w : World) : (Instr.slice 9 (.string (bs l)) (some (.int .i64 (m : Int))) none none).run Tryz.prog w = .ok (.string (bs (l.drop m))) w := by
  have hs : (bs l).size = l.length := by simp [bs, ByteArray.size]
  rw [run_slice_string_from_if w 9 _ .i64 _ Tryz.underlying9]
  rw [if_pos ⟨by omega, by rw [hs]; omega⟩]
  congr 2
  apply ByteArray.ext
  rw [ByteArray.data_extract]
  apply Array.ext'
  rw [hs]
  simp only [bs, Array.toList_extract, List.extract_eq_take_drop]
  rw [List.take_of_length_le (by simp), Int.toNat_natCast]
theorem str_cut (l : Bs) (a b : Nat) (h : a ≤ b) (hb : b ≤ l.length) (w : World) : (Instr.slice 9 (.string (bs l)) (some (.int .i64 (a : Int))) (some (.int .i64 (b : Int))) none).run Tryz.prog w = .ok (.string (bs ((l.take b).drop a))) w := by
  have hs : (bs l).size = l.length := bs_size l
  rw [run_slice_string_if w 9 _ .i64 .i64 _ _ Tryz.underlying9]
  rw [if_pos ⟨by omega, by rw [hs]; omega⟩, if_pos (by omega)]
  congr 2
  apply ByteArray.ext
  rw [ByteArray.data_extract]
  apply Array.ext'
  simp only [bs, Array.toList_extract, List.extract_eq_take_drop]
  rw [Int.toNat_natCast, Int.toNat_natCast, List.drop_take]
theorem str_to (l : Bs) (m : Nat) (h : m ≤ l.length) (w : World) : (Instr.slice 9 (.string (bs l)) none (some (.int .i64 (m : Int))) none).run Tryz.prog w = .ok (.string (bs (l.take m))) w := by
  have hs : (bs l).size = l.length := bs_size l
  rw [run_slice_string_to_if w 9 _ .i64 _ Tryz.underlying9]
  rw [if_pos ⟨by omega, by rw [hs]; omega⟩]
  congr 2
  apply ByteArray.ext
  rw [ByteArray.data_extract]
  apply Array.ext'
  simp [bs, Array.toList_extract, List.extract_eq_take_drop]
end Go.Proofs.YtcpkkaimingnlaaGreatDoor
