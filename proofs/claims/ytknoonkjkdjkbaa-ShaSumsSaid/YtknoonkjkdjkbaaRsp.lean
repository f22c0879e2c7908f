/-
  Small laws for the reference's sum, and its loops by name.
-/
import Derived.Test.YtknoonkjkdjkbaaSpec
namespace Go.Proofs.Ytknoonkjkdjkbaa
open Go.RowKit
def inLoops : Code → List Code
  | .loop c => .loop c :: inLoops c
  | .seq a b => inLoops a ++ inLoops b
  | .block _ c => inLoops c
  | .scope c => inLoops c
  | .cond _ a b => inLoops a ++ inLoops b
  | _ => []
noncomputable def lp3 : Code := ((Try.f9.body.map inLoops).getD []).getD 2 .skip
noncomputable def lp6 : Code := ((Try.f9.body.map inLoops).getD []).getD 5 .skip
noncomputable def lp4 : Code := ((Try.f9.body.map inLoops).getD []).getD 3 .skip
noncomputable def lp5 : Code := ((Try.f9.body.map inLoops).getD []).getD 4 .skip
theorem wv_mod (a : BitVec 32) : wv a % (4294967296 : Int) = wv a := Int.emod_eq_of_lt (wv_lo a) (wv_hi a)
attribute [local go_sem] wv_mod wv_unot wv_addm wv_mul24 wv_mul16 wv_mul8 wb_conv wv_add wv_bits_and wv_bits_or wv_bits_xor wv_shr wv_shl wv_shr3 wv_shr10 wv_not wv_not'

theorem b8s_snoc (L : List UInt8) (x : UInt8) (q : Int) (h : q = (x.toNat : Nat)) : b8s L ++ #[Value.int IntKind.u8 q].toList = b8s (L ++ [x]) := by
  subst h; rw [b8s_append]; rfl
theorem pad_snoc (L : List UInt8) (z : Nat) : b8s (L ++ List.replicate z 0) ++ #[Value.int IntKind.u8 0].toList = b8s (L ++ List.replicate (z + 1) 0) := by
  rw [b8s_snoc _ 0 0 rfl, List.replicate_succ', List.append_assoc]
theorem be8_snoc (L : List UInt8) (m k : Nat) (q : Int) (hk : k < 8) (h : q = ((m / 2 ^ (56 - 8 * k) : Nat) : Int) % 256) : b8s (L ++ (be8 m).take k) ++ #[Value.int IntKind.u8 q].toList = b8s (L ++ (be8 m).take (k + 1)) := by
  rw [b8s_snoc _ (UInt8.ofNat (m / 2 ^ (56 - 8 * k))) q (by rw [h, u8_of]), be8_take m k hk, List.append_assoc]

theorem w32s_snoc (l : List (BitVec 32)) (x : BitVec 32) : w32s l ++ [.int .u32 (wv x)] = w32s (l ++ [x]) := by simp [w32s]
theorem own_cap {w : World} {base size n cap : Nat} {e : TypeId} {A : Option Addr} {xs : List Value} (h : w.ownsRow base e size (.slice A n cap) n xs) : n ≤ cap := by
  obtain ⟨_, _, e1, h1, _⟩ := own_form h
  injection e1; omega
theorem b8s_drop (l : List UInt8) (k : Nat) : b8s (l.drop k) = (b8s l).drop k := by simp [b8s]
theorem rd_row8 (W : World) (s : S8) : Rd (W.alloc (.cells s.vals.toArray 43)).drew (W.alloc (.cells s.vals.toArray 43)).drew.heap.size 1 (some ⟨W.heap.size, 0, none⟩) 8 (w32s s.list) := by
  refine ⟨rfl, fun _ => ⟨W.heap.size, 0, rfl, by show W.heap.size < (W.alloc _).heap.size; simp, fun j hj => ?_⟩⟩
  have := blk_cell (blk_new W 44 s.vals.toArray) j
  have hb := blk_cell (blk_new W 43 s.vals.toArray) j
  rw [Nat.zero_add]
  exact hb
theorem bytes_snoc (s : S8) (k : Nat) (h : k < 8) : bytesOf (s.list.take (k + 1)) = bytesOf (s.list.take k) ++ wordBytes (s.list.getD k 0) := by
  have hl : k < s.list.length := h
  rw [List.take_succ_eq_append_getElem hl, bytesOf, List.flatMap_append]
  simp [bytesOf, hl]
theorem word_cells (x : BitVec 32) : #[Value.int IntKind.u8 (wv x / (16777216 : Int) % 256), Value.int IntKind.u8 (wv x / (65536 : Int) % 256), Value.int IntKind.u8 (wv x / (256 : Int) % 256), Value.int IntKind.u8 (wv x % 256)].toList = b8s (wordBytes x) := by
  simp only [b8s, wordBytes, List.map_cons, List.map_nil, u8_of, wv]
  rfl
theorem shr_byte (n k : Nat) (h : k < 8) : (8 * (n : Int) / 2 ^ (8 * (7 - k)) % 256) = ((8 * n / 2 ^ (56 - 8 * k) : Nat) : Int) % 256 := by
  rw [show 8 * (7 - k) = 56 - 8 * k from by omega]; simp

end Go.Proofs.Ytknoonkjkdjkbaa
