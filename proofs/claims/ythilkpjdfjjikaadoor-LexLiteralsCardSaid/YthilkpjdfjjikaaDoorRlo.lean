/-
  The document's small letter of a byte.
-/
import Derived.Test.YthilkpjdfjjikaaDoorRsm
namespace Go.Proofs.YthilkpjdfjjikaaDoor
open Go.RowKit

theorem conv_row (c : UInt8) (W : World) (g cap : Nat) (h : W.cell? ⟨g, 0, none⟩ = some (u8v c)) : (convert 92 9 (.slice (some ⟨g, 0, none⟩) 1 cap)).run Tryd.prog W = .ok (.string (bs [c])) W := by
  refine run_convert_bytes_back _ 92 9 5 ⟨g, 0, none⟩ cap [c] Tryd.underlying92 Tryd.underlying5 Tryd.underlying9 ?_
  intro j hj
  have hj0 : j = 0 := by simpa using hj
  subst hj0
  rw [add_eq]
  exact h
theorem two_cell (w : World) (o : Obj) (x : Value) (zs : Array Value) : ((w.alloc o).alloc (.cells (#[x] ++ zs) 5)).drew.cell? ⟨w.heap.size + 1, 0, none⟩ = some x := by
  have h : ((w.alloc o).alloc (.cells (#[x] ++ zs) 5)).drew.heap[w.heap.size + 1]? = some (.cells (#[x] ++ zs) 5 (0, 0)) := by
    have := heap_alloc_new (w.alloc o) (.cells (#[x] ++ zs) 5)
    rw [show (w.alloc o).heap.size = w.heap.size + 1 from by simp] at this
    exact this
  rw [cell_of_row _ _ 0 _ 5 (0, 0) h]
  rw [Array.getElem?_append_left (by simp)]
  rfl
set_option maxHeartbeats 2000000 in
set_option maxRecDepth 100000 in
theorem smallR_one (c : UInt8) (w : World) : Calls Tryd.prog 54 #[.string (bs [c])] w fun e w' => e = .returned (.string (bs [smallB c])) ∧ Below w.heap.size w w' := by
  have hn := small_nat c
  have hlt := c.toNat_lt
  have hz : (bs [c]).size = 1 := rfl
  have hx : ∀ W, (Instr.index 9 (.string (bs [c])) (.int .i64 0)).run Tryd.prog W = .ok (.int .u8 ((c.toNat : Nat) : Int)) W := fun W => str_byte [c] 0 (by simp) W
  have hcv := fun W g cap h => conv_row (smallB c) W g cap h
  unfold u8v at hcv
  obtain ⟨R, hR⟩ : ∃ R, R = bs [smallB c] := ⟨_, rfl⟩
  rw [← hR] at hcv ⊢
  generalize (smallB c).toNat = m at hn hcv
  generalize c.toNat = n at hn hlt hx
  have HCV := Lib.hid hcv
  generalize bs [c] = S at *
  clear hR hcv
  go_enter Tryd.func54, Tryd.ntmps54
  go_wp2_with fail
  go_loopw [3, 4] (fun b i wr => (i = .int .i64 0 ∧ b = .slice none 0 0 ∧ wr = w) ∨ (i = .int .i64 1 ∧ ∃ g cap, b = .slice (some ⟨g, 0, none⟩) 1 cap ∧ wr.cell? ⟨g, 0, none⟩ = some (.int .u8 (m : Int)) ∧ Below w.heap.size w wr)) (fun _ i _ => 1 - (intOf i).toNat)
  case atStart => exact .inl ⟨rfl, rfl, rfl⟩
  case round =>
    rcases hrel with ⟨rfl, rfl, rfl⟩ | ⟨rfl, g, cap, rfl, hcell, hB⟩
    · by_cases h : 65 ≤ n ∧ n ≤ 90
      · rw [if_pos h] at hn
        subst hn
        have t1 : decide ((n : Int) ≥ 65) = true := by rw [decide_eq_true_eq]; omega
        have t2 : decide ((n : Int) ≤ 90) = true := by rw [decide_eq_true_eq]; omega
        go_wp2_with fail
        refine ⟨.inr ⟨rfl, wr.heap.size + 1, _, rfl, ?_, (((Below.refl _ wr).alloc (Nat.le_refl _) _).alloc (by simp) _).drew⟩, by simp [intOf]⟩
        exact two_cell wr _ _ _
      · rw [if_neg h] at hn
        subst hn
        by_cases h1 : 65 ≤ m
        · have t1 : decide ((m : Int) ≥ 65) = true := by rw [decide_eq_true_eq]; omega
          have t2 : decide ((m : Int) ≤ 90) = false := by rw [decide_eq_false_iff_not]; omega
          go_wp2_with fail
          refine ⟨.inr ⟨rfl, wr.heap.size + 1, _, rfl, ?_, (((Below.refl _ wr).alloc (Nat.le_refl _) _).alloc (by simp) _).drew⟩, by simp [intOf]⟩
          exact two_cell wr _ _ _
        · have t1 : decide ((m : Int) ≥ 65) = false := by rw [decide_eq_false_iff_not]; omega
          go_wp2_with fail
          refine ⟨.inr ⟨rfl, wr.heap.size + 1, _, rfl, ?_, (((Below.refl _ wr).alloc (Nat.le_refl _) _).alloc (by simp) _).drew⟩, by simp [intOf]⟩
          exact two_cell wr _ _ _
    · have hc := HCV.out _ _ cap hcell
      go_wp2_with fail
      go_ret
      exact ⟨rfl, hB⟩
end Go.Proofs.YthilkpjdfjjikaaDoor
