/-
  The laws' first lines: what must be answered ahead of everything else.
-/
import Derived.Test.YtpmndnijejnhnaaDoorVal
import Derived.Test.YtpmndnijejnhnaaDoorMk
namespace Go.Proofs.YtpmndnijejnhnaaDoor
open Go.RowKit

theorem tabs_below {w w' : World} (h : Lib.Utf8Tabs 0 1 w) (hb : Below w.heap.size w w') : Lib.Utf8Tabs 0 1 w' := Utf8Tabs_below h hb
theorem rd_ints (w : World) (l : List Int) (n : Nat) (hn : n = l.length) (cs : Array Value) (hcs : cs = (ints l).toArray) : Rd (w.alloc (.cells cs 3)) (w.alloc (.cells cs 3)).heap.size 1 (some ⟨w.heap.size, 0, none⟩) n (ints l) := by
  subst hn hcs
  refine ⟨by simp [ints], fun _ => ⟨w.heap.size, 0, rfl, by simp, fun j hj => ?_⟩⟩
  rw [Nat.zero_add, cell_of_row _ w.heap.size j (ints l).toArray 3 (0, 0) (heap_alloc_new w _)]
  simp
theorem f_valid1 : validL [97, 195, 169] = true := by decide
theorem f_valid2 : validL [255] = false := by decide
theorem f_points : fixedL [97, 195, 169, 255] = [97, 233, 65533] := by decide
theorem f_squeeze : squeezeL [32, 32, 97, 32, 10, 32, 98, 32] = [97, 32, 98] := by decide
theorem f_cut : cutL 3 [97, 98, 99, 100] = [97, 98, 226, 128, 166] := by decide
set_option maxHeartbeats 4000000 in
set_option maxRecDepth 100000 in
theorem first_any (w : World) (hT : Lib.Utf8Tabs 0 1 w) :
    Calls Tryd.prog 11 #[] w fun e w' => e = .returned (.bool true) ∧ Below w.heap.size w w' := by
  have HT := Lib.hid hT; clear hT
  have H1 := Lib.hid (uvalid_any [97, 195, 169] w (by decide) HT.out)
  rw [f_valid1] at H1
  go_enter Tryd.func11, Tryd.ntmps11
  go_wp2_with fail
  refine H1.out.mono ?_
  rintro e w1 ⟨rfl, b1⟩
  clear H1
  have H2 := Lib.hid (uvalid_any [255] w1 (by decide) (tabs_below HT.out b1))
  rw [f_valid2] at H2
  have hs1 := b1.size
  go_wp2_with fail
  refine H2.out.mono ?_
  rintro e w2 ⟨rfl, b2⟩
  clear H2
  have H3 := Lib.hid (upoints_any [97, 195, 169, 255] w2 (by decide))
  rw [f_points] at H3
  have hs2 := b2.size
  go_wp2_with fail
  refine H3.out.mono ?_
  rintro e w3 ⟨v3, rfl, o3, b3⟩
  obtain ⟨A3, c3, rfl, hc3, _⟩ := own_form o3
  clear H3
  have hr1 := (Rd.of_own o3).keep ((Below.refl w3.heap.size w3).alloc (Nat.le_refl _) (.cells #[.int .i64 97, .int .i64 233, .int .i64 65533] 3))
  have hr2 := rd_ints w3 [97, 233, 65533] 3 rfl #[.int .i64 97, .int .i64 233, .int .i64 65533] rfl
  have H4 := Lib.hid (same_any [97, 233, 65533] [97, 233, 65533] A3 (some ⟨w3.heap.size, 0, none⟩) c3 3 _ _ (hr1.more (by simp)) hr2 (by decide) (by decide))
  have hb4 := (Below.refl w3.heap.size w3).alloc (Nat.le_refl _) (.cells #[.int .i64 97, .int .i64 233, .int .i64 65533] 3)
  have hs3 := b3.size
  clear o3 hr1 hr2
  go_wp2_with fail
  refine H4.out.mono ?_
  rintro e w4 ⟨rfl, q, hq⟩
  have hb5 : Below w3.heap.size w3 w4 := by
    rw [hq]
    exact hb4.trans ((drew_below _ q).mono hb4.size)
  clear H4 hq hb4
  have hs4 := hb5.size
  have H5 := Lib.hid (squeeze_any [32, 32, 97, 32, 10, 32, 98, 32] w4 (by decide))
  rw [f_squeeze] at H5
  go_wp2_with fail
  refine H5.out.mono ?_
  rintro e w5 ⟨rfl, b5⟩
  clear H5
  have hs5 := b5.size
  have H6 := Lib.hid (ucut_any [97, 98, 99, 100] 3 w5 (by decide) (by decide) (by decide))
  rw [f_cut] at H6
  go_wp2_with fail
  refine H6.out.mono ?_
  rintro e w6 ⟨rfl, b6⟩
  clear H6
  go_wp2_with fail
  go_ret
  exact ⟨rfl, b1.trans ((b2.trans ((b3.trans ((hb5.trans ((b5.trans (b6.mono hs5)).mono hs4)).mono hs3)).mono hs2)).mono hs1)⟩
end Go.Proofs.YtpmndnijejnhnaaDoor
