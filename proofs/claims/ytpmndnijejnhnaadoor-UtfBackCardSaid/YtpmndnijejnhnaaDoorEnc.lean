/-
  A code point's bytes: the library's and the reference's are the same; a new Builder.
-/
import Derived.Lib.FrozenHead
import Derived.Test.YtpmndnijejnhnaaDoorWr
import Derived.Test.YtpmndnijejnhnaaDoorLaw
namespace Go.Proofs.YtpmndnijejnhnaaDoor
open Go.RowKit

theorem u8e (n : Nat) (h : n < 256) (z : Int) (hz : z = n) : Value.int .u8 z = Value.int .u8 (((UInt8.ofNat n).toNat : Nat) : Int) := by
  rw [hz]; congr 2; rw [UInt8.toNat_ofNat', Nat.mod_eq_of_lt (by simpa using h)]
theorem enc_one (p : Nat) (h : isPt p = true) : Lib.runeCells p = b8s (oneL p) := by
  have hp : p ≤ 1114111 ∧ (p < 55296 ∨ 57343 < p) := by
    simp only [isPt, Bool.and_eq_true, Bool.or_eq_true, decide_eq_true_eq] at h; omega
  unfold Lib.runeCells oneL
  by_cases h1 : p < 128
  · rw [if_pos h1, Lib.encodeRuneZ_one (by omega) (by omega)]
    simp only [b8s, List.map_cons, List.map_nil, List.cons.injEq, and_true]
    refine u8e _ ?_ _ ?_ <;> omega
  · rw [if_neg h1]
    by_cases h2 : p < 2048
    · rw [if_pos h2, Lib.encodeRuneZ_two (by omega) (by omega)]
      simp only [b8s, List.map_cons, List.map_nil, List.cons.injEq, and_true]
      refine ⟨u8e _ ?_ _ ?_, u8e _ ?_ _ ?_⟩ <;> omega
    · rw [if_neg h2]
      by_cases h3 : p < 65536
      · rw [if_pos h3, Lib.encodeRuneZ_three (by omega)]
        simp only [b8s, List.map_cons, List.map_nil, List.cons.injEq, and_true]
        refine ⟨u8e _ ?_ _ ?_, u8e _ ?_ _ ?_, u8e _ ?_ _ ?_⟩ <;> omega
      · rw [if_neg h3, Lib.encodeRuneZ_four (by omega) (by omega)]
        simp only [b8s, List.map_cons, List.map_nil, List.cons.injEq, and_true]
        refine ⟨u8e _ ?_ _ ?_, u8e _ ?_ _ ?_, u8e _ ?_ _ ?_, u8e _ ?_ _ ?_⟩ <;> omega
theorem b8s_cells (l : List UInt8) : Lib.byteCells l = b8s l := rfl
/-- A Builder that a call has just laid. -/
theorem builder_new (w : World) : Lib.IsBuilderF 48 5 w.heap.size w.heap.size [] (w.alloc (.cells #[.pointer none, .slice none 0 0] 48)) :=
  .inl ⟨Nat.le_refl _, .slice none 0 0, heap_alloc_new w _, World.ownsRowF_of (World.ownsRow_nil _ _ _ _), by simp [Value.ownBlock]⟩
end Go.Proofs.YtpmndnijejnhnaaDoor
