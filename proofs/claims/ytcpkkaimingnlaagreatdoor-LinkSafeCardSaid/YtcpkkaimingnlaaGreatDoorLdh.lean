/-
  What a decoded code point beyond ASCII is, and what its bytes are.
-/
import Derived.Test.YtcpkkaimingnlaaGreatDoorLix
namespace Go.Proofs.YtcpkkaimingnlaaGreatDoor
open Go.RowKit

theorem get_at (l : List UInt8) (i : Nat) (h : i < l.length) : ((bs l).get! i) = l.getD i 0 := by
  show l.toArray[i]! = _
  simp [h]
theorem valid_low (c : Nat) (h : c < 55296) : Utf8.valid (c : Int) = true := by unfold Utf8.valid; simp; omega
theorem valid_top (c : Nat) (h : Utf8.valid (c : Int) = true) : c ≤ 1114111 := by
  rcases Nat.lt_or_ge 1114111 c with hc | hc
  · have : Utf8.valid (c : Int) = false := by unfold Utf8.valid; simp; omega
    rw [this] at h; cases h
  · exact hc
theorem valid_err : Utf8.valid ((Utf8.runeError : Nat) : Int) = true := by decide
theorem dec_high (l : Bs) (i : Nat) (h : i < l.length) (hx : 128 ≤ (l.getD i 0).toNat) :
    ∃ r k, Utf8.decode (bs l) i = (r, k) ∧ 128 ≤ r ∧ r ≤ 1114111 ∧ Utf8.valid (r : Int) = true ∧ 1 ≤ k ∧ i + k ≤ l.length ∧ ∀ j, j < k → 128 ≤ (l.getD (i + j) 0).toNat := by
  have hs : (bs l).size = l.length := bs_size l
  have g0 := get_at l i h
  have bad : ∃ r k, (Utf8.runeError, 1) = (r, k) ∧ 128 ≤ r ∧ r ≤ 1114111 ∧ Utf8.valid (r : Int) = true ∧ 1 ≤ k ∧ i + k ≤ l.length ∧ ∀ j, j < k → 128 ≤ (l.getD (i + j) 0).toNat :=
    ⟨Utf8.runeError, 1, rfl, by decide, by decide, valid_err, by omega, by omega, fun j hj => by
      obtain rfl : j = 0 := by omega
      exact hx⟩
  unfold Utf8.decode
  simp only [Nat.add_zero, g0]
  rw [if_neg (by omega)]
  split
  · rename_i hc
    simp only [Bool.and_eq_true, beq_iff_eq, decide_eq_true_eq, hs] at hc
    obtain ⟨h6, hl1, hc1⟩ := hc
    rw [get_at l (i + 1) hl1] at hc1 ⊢
    split
    · rename_i hr
      refine ⟨_, 2, rfl, hr, by omega, valid_low _ (by omega), by omega, by omega, fun j hj => ?_⟩
      rcases (show j = 0 ∨ j = 1 by omega) with rfl | rfl
      · exact hx
      · omega
    · exact bad
  · split
    · rename_i hc
      simp only [Bool.and_eq_true, beq_iff_eq, decide_eq_true_eq, hs] at hc
      obtain ⟨⟨h6, hl1, hc1⟩, hl2, hc2⟩ := hc
      rw [get_at l (i + 1) hl1] at hc1 ⊢
      rw [get_at l (i + 2) hl2] at hc2 ⊢
      split
      · rename_i hr
        rw [Bool.and_eq_true, decide_eq_true_eq] at hr
        refine ⟨_, 3, rfl, by omega, by omega, hr.2, by omega, by omega, fun j hj => ?_⟩
        rcases (show j = 0 ∨ j = 1 ∨ j = 2 by omega) with rfl | rfl | rfl
        · exact hx
        · omega
        · omega
      · exact bad
    · split
      · rename_i hc
        simp only [Bool.and_eq_true, beq_iff_eq, decide_eq_true_eq, hs] at hc
        obtain ⟨⟨⟨h6, hl1, hc1⟩, hl2, hc2⟩, hl3, hc3⟩ := hc
        rw [get_at l (i + 1) hl1] at hc1 ⊢
        rw [get_at l (i + 2) hl2] at hc2 ⊢
        rw [get_at l (i + 3) hl3] at hc3 ⊢
        split
        · rename_i hr
          rw [Bool.and_eq_true, decide_eq_true_eq] at hr
          refine ⟨_, 4, rfl, by omega, valid_top _ hr.2, hr.2, by omega, by omega, fun j hj => ?_⟩
          rcases (show j = 0 ∨ j = 1 ∨ j = 2 ∨ j = 3 by omega) with rfl | rfl | rfl | rfl
          · exact hx
          · omega
          · omega
          · omega
        · exact bad
      · exact bad
end Go.Proofs.YtcpkkaimingnlaaGreatDoor
