/-
  The document's machine's step, whatever the state.
-/
import Derived.Test.YthilkpjdfjjikaaDoorRsv
import Derived.Test.YthilkpjdfjjikaaDoorRsw
import Derived.Test.YthilkpjdfjjikaaDoorRsb
namespace Go.Proofs.YthilkpjdfjjikaaDoor
open Go.RowKit

def szW (x : Walk) : Nat := x.el.length + x.attr.length + x.seen.length
theorem stepR_any (x : Walk) (c : UInt8) (hst : x.st ≤ 12) (hs : szW x ≤ 900000) (w : World) :
    Calls Tryd.prog 33 #[walkV x, u8v c] w fun e w' => e = .returned (walkV (stepW x c)) ∧ Below w.heap.size w w' := by
  obtain ⟨st, el, at', seen, q, f⟩ := x
  unfold szW at hs
  dsimp only at hst hs
  have h : st = 0 ∨ st = 1 ∨ st = 2 ∨ st = 3 ∨ st = 4 ∨ st = 5 ∨ st = 6 ∨ st = 7 ∨ st = 8 ∨ st = 9 ∨ st = 10 ∨ st = 11 ∨ st = 12 := by omega
  rcases h with rfl | rfl | rfl | rfl | rfl | rfl | rfl | rfl | rfl | rfl | rfl | rfl | rfl
  · exact stp_0 el at' seen q c f w
  · exact stp_1 el at' seen q c f w
  · exact stp_2 el at' seen q c f hs w
  · exact stp_3 el at' seen q c f hs w
  · exact stp_4 el at' seen q c f w
  · exact stp_5 el at' seen q c f w
  · exact stp_6 el at' seen q c f hs w
  · exact stp_7 el at' seen q c f w
  · exact stp_8 el at' seen q c f w
  · exact stp_9 el at' seen q c f w
  · exact stp_10 el at' seen q c f w
  · exact stp_11 el at' seen q c f (by omega) w
  · exact stp_12 el at' seen q c f hs w
theorem sz_ite {p : Prop} [Decidable p] {a b : Walk} {n : Nat} (ha : szW a ≤ n) (hb : szW b ≤ n) : szW (if p then a else b) ≤ n := by
  by_cases h : p
  · rw [if_pos h]; exact ha
  · rw [if_neg h]; exact hb
theorem stepW_sz (x : Walk) (c : UInt8) : szW (stepW x c) ≤ szW x + 1 := by
  obtain ⟨st, el, at', seen, q, f⟩ := x
  unfold stepW textW bangW
  repeat' apply sz_ite
  all_goals
    simp only [szW, List.length_append, List.length_cons, List.length_nil]
    omega
end Go.Proofs.YthilkpjdfjjikaaDoor
