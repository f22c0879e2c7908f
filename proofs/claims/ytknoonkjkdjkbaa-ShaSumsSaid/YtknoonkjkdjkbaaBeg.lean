/-
  The eight beginnings and the sixty-four round constants, as the program writes them.
-/
import Derived.Great.BuildSlice
import Derived.Great.Walk
import Derived.Test.YtknoonkjkdjkbaaSpec
namespace Go.Proofs.Ytknoonkjkdjkbaa
open Go.RowKit Go.Great

def z64 : Array Value := #[.int .u32 0, .int .u32 0, .int .u32 0, .int .u32 0, .int .u32 0, .int .u32 0, .int .u32 0, .int .u32 0, .int .u32 0, .int .u32 0, .int .u32 0, .int .u32 0, .int .u32 0, .int .u32 0, .int .u32 0, .int .u32 0, .int .u32 0, .int .u32 0, .int .u32 0, .int .u32 0, .int .u32 0, .int .u32 0, .int .u32 0, .int .u32 0, .int .u32 0, .int .u32 0, .int .u32 0, .int .u32 0, .int .u32 0, .int .u32 0, .int .u32 0, .int .u32 0, .int .u32 0, .int .u32 0, .int .u32 0, .int .u32 0, .int .u32 0, .int .u32 0, .int .u32 0, .int .u32 0, .int .u32 0, .int .u32 0, .int .u32 0, .int .u32 0, .int .u32 0, .int .u32 0, .int .u32 0, .int .u32 0, .int .u32 0, .int .u32 0, .int .u32 0, .int .u32 0, .int .u32 0, .int .u32 0, .int .u32 0, .int .u32 0, .int .u32 0, .int .u32 0, .int .u32 0, .int .u32 0, .int .u32 0, .int .u32 0, .int .u32 0, .int .u32 0]
def kZ : List Int := [1116352408, 1899447441, 3049323471, 3921009573, 961987163, 1508970993, 2453635748, 2870763221, 3624381080, 310598401, 607225278, 1426881987, 1925078388, 2162078206, 2614888103, 3248222580, 3835390401, 4022224774, 264347078, 604807628, 770255983, 1249150122, 1555081692, 1996064986, 2554220882, 2821834349, 2952996808, 3210313671, 3336571891, 3584528711, 113926993, 338241895, 666307205, 773529912, 1294757372, 1396182291, 1695183700, 1986661051, 2177026350, 2456956037, 2730485921, 2820302411, 3259730800, 3345764771, 3516065817, 3600352804, 4094571909, 275423344, 430227734, 506948616, 659060556, 883997877, 958139571, 1322822218, 1537002063, 1747873779, 1955562222, 2024104815, 2227730452, 2361852424, 2428436474, 2756734187, 3204031479, 3329325298]
theorem kZ_eq : (kZ.map (Value.int .u32)).toArray = (w32s kTab).toArray := by
  simp only [kZ, w32s, kTab, List.map_cons, List.map_nil]
  rfl

set_option maxRecDepth 100000 in
theorem beginnings_any (w : World) : Calls Try.prog 16 #[] w fun e w' => e = .returned (.agg hTab.vals.toArray) ∧ Below w.heap.size w w' := by
  go_enter Try.func16, Try.ntmps16
  go_wp2_with (refine wpList_store_row rfl 44 (.tmp 0) (.tmp 1) rfl w.heap.size hTab.vals.toArray rfl (by kernel_rfl) 44 S8.zero.vals.toArray (by exact blk_new w 44 S8.zero.vals.toArray) (by kernel_rfl) rfl (vals_one _) ?_)
  have hl : (loadVar 44 ⟨w.heap.size, 0, none⟩).run Try.prog ((w.alloc (.cells S8.zero.vals.toArray 44)).setRow w.heap.size hTab.vals.toArray) = .ok (.agg hTab.vals.toArray) ((w.alloc (.cells S8.zero.vals.toArray 44)).setRow w.heap.size hTab.vals.toArray) :=
    run_loadVar_row _ _ 44 44 _ (0, 0) _ (setRow_heap _ _ _ _ 44 (0, 0) (blk_new w 44 S8.zero.vals.toArray)) Try.underlying44 rfl (by kernel_rfl)
  refine bodyPost_ret (v := .agg hTab.vals.toArray) ?_ rfl ⟨rfl, ?_⟩
  · rw [results_cell1 Try.results16]
    exact hl
  · exact below_setRow ((Below.refl _ w).alloc (Nat.le_refl _) _) (by omega) _

attribute [local irreducible] wpList Code.wp z64 kZ

set_option maxHeartbeats 2000000 in
set_option maxRecDepth 100000 in
theorem rounds_any (w : World) : Calls Try.prog 17 #[] w fun e w' => e = .returned (.agg (w32s kTab).toArray) ∧ Below w.heap.size w w' := by
  rw [← kZ_eq]
  go_enter Try.func17, Try.ntmps17
  apply wp_seq_k; intro K0 hK0
  apply wp_region_lit
  refine wpList_allocTo rfl (some 0) rfl (.pointer (some ⟨w.heap.size, 0, none⟩)) (.cells z64 46) (by kernel_rfl) ?_
  refine wpList_frame (a' := { tmps := #[.pointer (some ⟨w.heap.size, 0, none⟩), undef], defers := [] }) (by kernel_rfl) ?_
  apply wpList_nil
  refine hK0 _ _ ?_
  clear hK0 K0
  apply wp_seq_k; intro K1 hK1
  apply wp_region_lit
  refine wpList_buildFlatArrTo rfl 46 43 64 _ rfl .u32 kZ (some 1) rfl (by kernel_rfl) (by kernel_rfl) (by kernel_rfl) (by kernel_rfl) ?_
  refine wpList_frame (a' := { tmps := #[.pointer (some ⟨w.heap.size, 0, none⟩), .agg (kZ.map (Value.int .u32)).toArray], defers := [] }) (by kernel_rfl) ?_
  refine wpList_store_rowTo rfl 46 _ _ rfl rfl w.heap.size (kZ.map (Value.int .u32)).toArray (by kernel_rfl) (by kernel_rfl) 46 z64 (by exact blk_new w 46 z64) (by kernel_rfl) (by kernel_rfl) (by kernel_rfl) ?_
  apply wpList_nil
  refine hK1 _ _ ?_
  clear hK1 K1
  apply wp_ret
  have hl : (loadVar 46 ⟨w.heap.size, 0, none⟩).run Try.prog ((w.alloc (.cells z64 46)).setRow w.heap.size (kZ.map (Value.int .u32)).toArray) = .ok (.agg (kZ.map (Value.int .u32)).toArray) ((w.alloc (.cells z64 46)).setRow w.heap.size (kZ.map (Value.int .u32)).toArray) :=
    run_loadVar_row _ _ 46 46 _ (0, 0) _ (setRow_heap _ _ _ _ 46 (0, 0) (blk_new w 46 z64)) Try.underlying46 (by kernel_rfl) (by kernel_rfl)
  refine bodyPost_ret (v := .agg (kZ.map (Value.int .u32)).toArray) ?_ rfl ⟨rfl, ?_⟩
  · rw [results_cell1 Try.results17]
    exact hl
  · exact below_setRow ((Below.refl _ w).alloc (Nat.le_refl _) _) (by omega) _
end Go.Proofs.Ytknoonkjkdjkbaa
