/-
  first: what must be answered ahead of everything else: it is.
-/
import Derived.Lib.SmallJoins
import Derived.Test.YtknoonkjkdjkbaaHex
namespace Go.Proofs.Ytknoonkjkdjkbaa
open Go.RowKit Go.Shelf

theorem rd_row {w : World} {g n B : Nat} {t : TypeId} {xs : List Value} {fr : Nat × Nat} (h : w.heap[g]? = some (.cells xs.toArray t fr)) (hB : g < B) (hn : xs.length = n) : Rd w B 1 (some ⟨g, 0, none⟩) n xs :=
  ⟨by omega, fun _ => ⟨g, 0, rfl, hB, fun j hj => by rw [Nat.zero_add, cell_of_row w g j xs.toArray t fr h]; simp⟩⟩
theorem abc_hex : (⟨(hexOf (digest [97, 98, 99])).toArray⟩ : ByteArray) = ⟨#[98, 97, 55, 56, 49, 54, 98, 102, 56, 102, 48, 49, 99, 102, 101, 97, 52, 49, 52, 49, 52, 48, 100, 101, 53, 100, 97, 101, 50, 50, 50, 51, 98, 48, 48, 51, 54, 49, 97, 51, 57, 54, 49, 55, 55, 97, 57, 99, 98, 52, 49, 48, 102, 102, 54, 49, 102, 50, 48, 48, 49, 53, 97, 100]⟩ := by
  decide +kernel
theorem nil_first : (b8s (digest [])).toArray[0]? = some (.int .u8 227) := by
  have h : (digest []).getD 0 0 = 227 := by decide +kernel
  have := b8s_at (digest []) 0 (by rw [digest_length]; decide)
  rw [h] at this
  simpa using this
/-- Two parts in two new blocks, and the list of them in a third. -/
theorem partsAt_three (w : World) (x y : List UInt8) (f1 f2 : Nat × Nat) :
    let W := ((w.alloc (.cells (b8s x).toArray 5 f1)).alloc (.cells (b8s y).toArray 5 f2)).alloc (.cells #[.slice (some ⟨w.heap.size, 0, none⟩) x.length x.length, .slice (some ⟨w.heap.size + 1, 0, none⟩) y.length y.length] 22)
    partsAt W W.heap.size (some ⟨w.heap.size + 1 + 1, 0, none⟩) [⟨some ⟨w.heap.size, 0, none⟩, x.length, x⟩, ⟨some ⟨w.heap.size + 1, 0, none⟩, y.length, y⟩] ∧ Below w.heap.size w W ∧ W.heap.size = w.heap.size + 3 := by
  intro W
  have hs : W.heap.size = w.heap.size + 3 := by simp [W]
  have h0 : W.heap[w.heap.size]? = some (.cells (b8s x).toArray 5 f1) :=
    (Below.heap_alloc _ _ _ (by simp; omega)).trans ((Below.heap_alloc _ _ _ (by simp)).trans (World.alloc_heap_new w _))
  have h1 : W.heap[w.heap.size + 1]? = some (.cells (b8s y).toArray 5 f2) := by
    have := World.alloc_heap_new (w.alloc (.cells (b8s x).toArray 5 f1)) (.cells (b8s y).toArray 5 f2)
    rw [World.size_alloc] at this
    exact (Below.heap_alloc _ _ _ (by simp)).trans this
  have h2 : W.heap[w.heap.size + 1 + 1]? = some (.cells #[.slice (some ⟨w.heap.size, 0, none⟩) x.length x.length, .slice (some ⟨w.heap.size + 1, 0, none⟩) y.length y.length] 22 (0, 0)) := by
    have := World.alloc_heap_new ((w.alloc (.cells (b8s x).toArray 5 f1)).alloc (.cells (b8s y).toArray 5 f2)) (.cells #[.slice (some ⟨w.heap.size, 0, none⟩) x.length x.length, .slice (some ⟨w.heap.size + 1, 0, none⟩) y.length y.length] 22)
    rw [World.size_alloc, World.size_alloc] at this
    exact this
  refine ⟨⟨rd_row h2 (by omega) rfl, ?_⟩, ?_, hs⟩
  · intro p hp
    simp only [List.mem_cons, List.not_mem_nil, or_false] at hp
    rcases hp with rfl | rfl
    · exact ⟨rd_row h0 (by omega) (by simp [b8s]), Nat.le_refl _⟩
    · exact ⟨rd_row h1 (by omega) (by simp [b8s]), Nat.le_refl _⟩
  · exact (((Below.refl _ w).alloc (Nat.le_refl _) _).alloc (by simp) _).alloc (by simp; omega) _
theorem partsAt_nil (w : World) : partsAt w w.heap.size none [] := ⟨Rd.nil, fun _ h => by simp at h⟩

set_option maxHeartbeats 1000000 in
theorem first_any (w : World) : Calls Try.prog 7 #[] w fun e w' => e = .returned (.bool true) ∧ Below w.heap.size w w' := by
  obtain ⟨W, hW⟩ : ∃ W, W = (((w.alloc (.cells (b8s [97]).toArray 5 (1, 2))).alloc (.cells (b8s [98, 99]).toArray 5 (2, 3))).alloc (.cells #[.slice (some ⟨w.heap.size, 0, none⟩) 1 1, .slice (some ⟨w.heap.size + 1, 0, none⟩) 2 2] 22)) := ⟨_, rfl⟩
  obtain ⟨hp, hB, hs⟩ := partsAt_three w [97] [98, 99] (1, 2) (2, 3)
  have hpW : partsAt W W.heap.size (some ⟨w.heap.size + 1 + 1, 0, none⟩) [⟨some ⟨w.heap.size, 0, none⟩, 1, [97]⟩, ⟨some ⟨w.heap.size + 1, 0, none⟩, 2, [98, 99]⟩] := by rw [hW]; exact hp
  have hBW : Below w.heap.size w W := by rw [hW]; exact hB
  clear hp hB hs
  have HC := Lib.hid (hex_any _ _ 2 _ W hpW (Nat.le_refl _) (Nat.le_refl 2) (by show 2 ≤ 1000; decide) (by show 3 ≤ 5000; decide))
  have hall : allBytes [⟨some ⟨w.heap.size, 0, none⟩, 1, [97]⟩, ⟨some ⟨w.heap.size + 1, 0, none⟩, 2, [98, 99]⟩] = [97, 98, 99] := rfl
  rw [hall, abc_hex] at HC
  have hsW := hBW.size
  clear hall hpW
  have hc1 := Lib.run_convert_bytes_const (P := Try.prog) w 22 5 #[.int .u8 97] 1 1 Try.underlying22 Try.underlying5
  have hc2 := Joins.run_convert_bytes_const_at (P := Try.prog) (w.alloc (.cells #[.int .u8 97] 5 (1, 2))) 22 5 #[.int .u8 98, .int .u8 99] 2 2 (w.heap.size + 1) (by simp) Try.underlying22 Try.underlying5
  go_enter Try.func7, Try.ntmps7
  go_wp2_with fail
  refine calls_at (w1 := W) hW.symm ?_
  clear hW
  refine HC.out.mono ?_
  rintro e w1 ⟨rfl, b1⟩
  have Hs := Lib.hid (sum_any [] none 0 _ w1 (partsAt_nil w1) (Nat.le_refl _) (Nat.le_refl _) (by decide) (by decide))
  have H0 := Lib.hid nil_first
  obtain ⟨D, hD⟩ : ∃ D, D = digest [] := ⟨_, rfl⟩
  rw [show allBytes [] = [] from rfl, ← hD] at Hs
  rw [← hD] at H0
  clear hD HC
  go_wp2_with fail
  refine Hs.out.mono ?_
  rintro e w2 ⟨rfl, b2⟩
  have hi : ∀ w, (Instr.index 26 (.agg (b8s D).toArray) (.int .i64 0)).run Try.prog w = .ok (.int .u8 227) w := fun w => run_index26 w _ 0 _ (by decide) H0.out
  go_wp2_with fail
  go_ret
  exact ⟨rfl, hBW.trans ((b1.mono hsW).trans (b2.mono (by have := b1.size; omega)))⟩
end Go.Proofs.Ytknoonkjkdjkbaa
