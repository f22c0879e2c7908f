/-
  utf.Valid.
-/
import Derived.Test.YtpmndnijejnhnaaDoorShV
import Derived.Test.YtpmndnijejnhnaaDoorLaw
namespace Go.Proofs.YtpmndnijejnhnaaDoor
open Go.RowKit

def validL (l : List UInt8) : Bool := (ptsL l).all fun p => decide (0 ≤ p)
theorem readL_neg (x : UInt8) (r : List UInt8) (h : (readL (x :: r)).1 < 0) : readL (x :: r) = (-1, 1) := by
  simp only [readL] at h ⊢
  split
  · rename_i h0; rw [if_pos h0] at h; exfalso; have : ((x.toNat : Nat) : Int) < 0 := h; omega
  · rename_i h0
    rw [if_neg h0] at h
    split
    · rfl
    · rename_i n least b hh
      rw [hh] at h
      dsimp only at h
      split
      · rfl
      · rename_i h1
        rw [if_neg h1] at h
        split
        · rfl
        · rename_i p hp
          rw [hp] at h
          dsimp only at h
          split
          · rfl
          · rename_i hq
            rw [if_neg hq] at h
            have hpt : isPt p = true := by
              cases hi : isPt p with
              | true => rfl
              | false => exact absurd (Or.inr hi) hq
            have := isPt_range hpt
            exfalso
            have : p < 0 := h
            omega
theorem readL_err (x : UInt8) (r : List UInt8) (h : (readL (x :: r)).1 = 65533) : (readL (x :: r)).2 = 3 := by
  have h1 := one_read x r (by rw [h]; decide)
  have h2 := readL_le x r
  rw [h] at h1
  have h3 := congrArg List.length h1
  rw [List.length_take, List.length_cons] at h3
  have h4 : (oneL (65533 : Int).toNat).length = 3 := by decide
  omega
theorem valid_law : ∀ (n : Nat) (l : List UInt8), l.length ≤ n → Lib.validD l = validL l := by
  intro n
  induction n with
  | zero => intro l h; obtain rfl : l = [] := List.eq_nil_of_length_eq_zero (by omega); rfl
  | succ n ih =>
    intro l h
    match l with
    | [] => rfl
    | x :: r =>
      rw [Lib.validD_step _ (by simp)]
      have hd : Lib.decodeL (x :: r) = ((fixP (readL (x :: r)).1).toNat, (readL (x :: r)).2) := decode_read (x :: r) 0 x r rfl
      have hle := readL_le x r
      rw [hd]
      dsimp only
      have e : validL (x :: r) = (decide (0 ≤ (readL (x :: r)).1) && validL ((x :: r).drop (readL (x :: r)).2)) := by
        unfold validL; rw [ptsL_cons, List.all_cons]
      rw [e]
      by_cases hn : (readL (x :: r)).1 < 0
      · rw [readL_neg x r hn]
        rw [if_pos (by decide)]
        rfl
      · have hf : fixP (readL (x :: r)).1 = (readL (x :: r)).1 := if_neg hn
        rw [hf, if_neg ?_, decide_eq_true (by omega), Bool.true_and]
        · exact ih _ (by simp at h ⊢; omega)
        · rintro ⟨h1, h2⟩
          have := readL_err x r (by omega)
          omega
theorem uvalid_any (l : List UInt8) (w : World) (hl : l.length ≤ 60000) (hT : Lib.Utf8Tabs 0 1 w) :
    Calls Tryd.prog 12 #[.string ⟨l.toArray⟩] w fun e w' => e = .returned (.bool (validL l)) ∧ Below w.heap.size w w' := by
  have H27 : Hid (Calls Tryd.prog 27 #[.string ⟨l.toArray⟩] w fun e w' => e = .returned (.bool (Lib.validD l)) ∧ Below w.heap.size w w') :=
    Lib.hid (Tryd.utf8_ValidString ⟨l.toArray⟩ w (by show l.length ≤ _; omega) hT)
  rw [valid_law l.length l (Nat.le_refl _)] at H27
  go_enter Tryd.func12, Tryd.ntmps12
  go_wp2_with fail
  refine H27.out.mono ?_
  rintro e w' ⟨rfl, hw⟩
  go_wp2_with fail
  go_ret
  exact ⟨rfl, hw⟩
end Go.Proofs.YtpmndnijejnhnaaDoor
