/-
  Words of 32 bits as the walk meets them: 'wv x' is the number in a slot; each operation of the text leaves a word again. Nothing of the program stands in it but the rotations' two functions.
-/
import Derived.Test.YtknoonkjkdjkbaaProg
import Derived.Test.YtknoonkjkdjkbaaKit
namespace Go.Proofs.Ytknoonkjkdjkbaa
open Go.RowKit

def wv (x : BitVec 32) : Int := (x.toNat : Int)
theorem wv_lo (x : BitVec 32) : 0 ≤ wv x := by unfold wv; omega
theorem wv_hi (x : BitVec 32) : wv x < 4294967296 := by unfold wv; have := x.isLt; omega
theorem wv_add (a b : BitVec 32) : IntKind.u32.wrap (wv a + wv b) = wv (a + b) := by
  rw [IntKind.wrap_u32', wv, wv, wv, BitVec.toNat_add]; omega
theorem wv_addm (a b : BitVec 32) : (wv a + wv b) % (4294967296 : Int) = wv (a + b) := by
  rw [wv, wv, wv, BitVec.toNat_add]; omega
theorem ofInt_wv (a : BitVec 32) : BitVec.ofInt 32 (wv a) = a := by
  unfold wv; rw [BitVec.ofInt_natCast]; simp
theorem wv_bits_and (a b : BitVec 32) : bits .and .u32 (wv a) (wv b) = wv (a &&& b) := by
  show IntKind.u32.wrap ((BitVec.ofInt 32 (wv a) &&& BitVec.ofInt 32 (wv b)).toNat : Int) = _
  rw [ofInt_wv, ofInt_wv, IntKind.wrap_u32']
  exact Int.emod_eq_of_lt (wv_lo _) (wv_hi _)
theorem wv_bits_or (a b : BitVec 32) : bits .or .u32 (wv a) (wv b) = wv (a ||| b) := by
  show IntKind.u32.wrap ((BitVec.ofInt 32 (wv a) ||| BitVec.ofInt 32 (wv b)).toNat : Int) = _
  rw [ofInt_wv, ofInt_wv, IntKind.wrap_u32']
  exact Int.emod_eq_of_lt (wv_lo _) (wv_hi _)
theorem wv_bits_xor (a b : BitVec 32) : bits .xor .u32 (wv a) (wv b) = wv (a ^^^ b) := by
  show IntKind.u32.wrap ((BitVec.ofInt 32 (wv a) ^^^ BitVec.ofInt 32 (wv b)).toNat : Int) = _
  rw [ofInt_wv, ofInt_wv, IntKind.wrap_u32']
  exact Int.emod_eq_of_lt (wv_lo _) (wv_hi _)
theorem wv_shr (a : BitVec 32) (n : Nat) : wv a / 2 ^ n = wv (a >>> n) := by
  unfold wv; rw [BitVec.toNat_ushiftRight, Nat.shiftRight_eq_div_pow]; simp
theorem wv_shl (a : BitVec 32) (n : Nat) : wv a * 2 ^ n % 4294967296 = wv (a <<< n) := by
  unfold wv; rw [BitVec.toNat_shiftLeft, Nat.shiftLeft_eq]; simp
theorem wv_shr3 (a : BitVec 32) : wv a / (8 : Int) = wv (a >>> 3) := wv_shr a 3
theorem wv_shr10 (a : BitVec 32) : wv a / (1024 : Int) = wv (a >>> 10) := wv_shr a 10
theorem wv_not (a : BitVec 32) : IntKind.u32.wrap ((4294967295 : Int) - wv a) = wv (~~~a) := by
  rw [IntKind.wrap_u32', wv, wv, BitVec.toNat_not]; have := a.isLt; omega
theorem wv_not' (a : BitVec 32) : (4294967295 : Int) - wv a = wv (~~~a) := by
  rw [wv, wv, BitVec.toNat_not]; have := a.isLt; omega

theorem wv_unot (a : BitVec 32) : bits .xor .u32 (if IntKind.u32.signed = true then -1 else IntKind.u32.max) (wv a) = wv (~~~a) := by
  have e : (if IntKind.u32.signed = true then -1 else IntKind.u32.max) = wv (BitVec.allOnes 32) := by decide
  rw [e, wv_bits_xor, BitVec.allOnes_xor]

def rotr (x : BitVec 32) (n : Nat) : BitVec 32 := x >>> n ||| x <<< (32 - n)

theorem turn_any (x : BitVec 32) (n : Int) (w : World) (h2 : 1 ≤ n) (h3 : n ≤ 31) :
    Calls Try.prog 21 #[.int .u32 (wv x), .int .u64 n] w fun e w' => e = .returned (.int .u32 (wv (rotr x n.toNat))) ∧ w = w' := by
  have h0 := wv_lo x
  have h1 := wv_hi x
  go_enter Try.func21, Try.ntmps21
  go_wp2
  go_ret
  refine ⟨ret_int ?_, rfl⟩
  rw [show (32 - n).toNat = 32 - n.toNat from by omega, wv_shr, wv_shl, wv_bits_or]
  rfl

theorem mask_rot (k : Int) (h2 : -31 ≤ k) (h3 : k ≤ -1) : bits BinOp.and IntKind.u64 (IntKind.u64.wrap k) 31 = 32 + k := by
  have e : IntKind.u64.wrap k = k + 18446744073709551616 := by rw [IntKind.wrap_u64]; omega
  rw [e, u64_and _ _ (by omega) (by omega) (by omega) (by omega)]
  have : (31 : Int).toNat = 31 := rfl
  rw [this, nat_mask5]
  omega

theorem rot_any (x : BitVec 32) (k : Int) (w : World) (h2 : -31 ≤ k) (h3 : k ≤ -1) :
    Calls Try.prog 24 #[.int .u32 (wv x), .int .i64 k] w fun e w' => e = .returned (.int .u32 (wv (rotr x (-k).toNat))) ∧ w = w' := by
  have h0 := wv_lo x
  have h1 := wv_hi x
  have hm := mask_rot k h2 h3
  go_enter Try.func24, Try.ntmps24
  go_wp2
  go_ret
  refine ⟨ret_int ?_, rfl⟩
  rw [wv_shr, wv_shl, wv_bits_or, BitVec.or_comm, rotr]
  rw [show (32 - (32 + k)).toNat = (-k).toNat from by omega, show (32 + k).toNat = 32 - (-k).toNat from by omega]
end Go.Proofs.Ytknoonkjkdjkbaa
