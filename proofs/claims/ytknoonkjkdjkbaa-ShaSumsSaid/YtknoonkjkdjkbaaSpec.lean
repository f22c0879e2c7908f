/-
  What is computed: the padded bytes, the digest; and that the reference's words are the program's.
-/
import Derived.Test.YtknoonkjkdjkbaaBlock
import Derived.Test.YtknoonkjkdjkbaaTabs
import Derived.Test.YtknoonkjkdjkbaaByt
namespace Go.Proofs.Ytknoonkjkdjkbaa
open Go.RowKit

theorem ch_or (e f g : BitVec 32) : (e &&& f ||| ~~~e &&& g) = (e &&& f ^^^ ~~~e &&& g) := by
  ext i hi
  simp only [BitVec.getElem_or, BitVec.getElem_xor, BitVec.getElem_and, BitVec.getElem_not]
  cases e[i] <;> cases f[i] <;> cases g[i] <;> rfl
theorem maj_or (a b c : BitVec 32) : (a &&& b ||| a &&& c ||| b &&& c) = (a &&& b ^^^ a &&& c ^^^ b &&& c) := by
  ext i hi
  simp only [BitVec.getElem_or, BitVec.getElem_xor, BitVec.getElem_and]
  cases a[i] <;> cases b[i] <;> cases c[i] <;> rfl
theorem wb_toNat (x : UInt8) : (wb x).toNat = x.toNat := by
  have := x.toNat_lt
  rw [wb, BitVec.toNat_ofNat]; omega
theorem nat4 (a b c d : Nat) (ha : a < 256) (hb : b < 256) (hc : c < 256) (hd : d < 256) :
    (((a * 16777216 % 4294967296 + b * 65536 % 4294967296) % 4294967296 + c * 256 % 4294967296) % 4294967296 + d) % 4294967296 =
      a * 16777216 % 4294967296 ||| b * 65536 % 4294967296 ||| c * 256 % 4294967296 ||| d := by
  have e1 : a * 16777216 % 4294967296 = a * 16777216 := by omega
  have e2 : b * 65536 % 4294967296 = b * 65536 := by clear e1; omega
  have e3 : c * 256 % 4294967296 = c * 256 := by clear e1 e2; omega
  rw [e1, e2, e3]
  clear e1 e2 e3
  rw [nat_join 24 (a * 16777216) (b * 65536) (by omega) (by omega)]
  rw [nat_join 16 (a * 16777216 + b * 65536) (c * 256) (by omega) (by omega)]
  rw [nat_join 8 (a * 16777216 + b * 65536 + c * 256) d (by omega) (by omega)]
  omega
theorem word4_add (a b c d : UInt8) : wb a <<< 24 + wb b <<< 16 + wb c <<< 8 + wb d = word4 a b c d := by
  apply BitVec.eq_of_toNat_eq
  simp only [word4, BitVec.toNat_or, BitVec.toNat_add, BitVec.toNat_shiftLeft, wb_toNat, Nat.shiftLeft_eq, Nat.reducePow]
  exact nat4 _ _ _ _ a.toNat_lt b.toNat_lt c.toNat_lt d.toNat_lt

def padZ (n : Nat) : Nat := (119 - n % 64) % 64
def padded (l : List UInt8) : List UInt8 := (l ++ [128] ++ List.replicate (padZ l.length) 0) ++ be8 (8 * l.length)
def hashTo (P : List UInt8) : Nat → S8
  | 0 => hTab
  | i + 1 => (hashTo P i).add (S8.rounds kTab (sched (P.drop (64 * i)) 64) (hashTo P i) 64)
def wordBytes (x : BitVec 32) : List UInt8 := [UInt8.ofNat (x.toNat / 16777216), UInt8.ofNat (x.toNat / 65536), UInt8.ofNat (x.toNat / 256), UInt8.ofNat x.toNat]
def bytesOf (l : List (BitVec 32)) : List UInt8 := l.flatMap wordBytes
def blocksOf (l : List UInt8) : Nat := (l.length + 72) / 64
def digest (l : List UInt8) : List UInt8 := bytesOf (hashTo (padded l) (blocksOf l)).list
theorem padded_length (l : List UInt8) : (padded l).length = 64 * blocksOf l := by
  simp only [padded, blocksOf, padZ, List.length_append, be8_length, List.length_replicate, List.length_cons, List.length_nil]
  omega
end Go.Proofs.Ytknoonkjkdjkbaa
