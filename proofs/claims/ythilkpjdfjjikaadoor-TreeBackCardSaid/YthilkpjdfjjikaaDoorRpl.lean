/-
  The document's place of an insert.
-/
import Derived.Test.YthilkpjdfjjikaaDoorLayM
set_option linter.unusedVariables false
set_option linter.unusedSimpArgs false
namespace Go.Proofs.YthilkpjdfjjikaaDoor
open Go.RowKit

theorem pre_on (t : Bs) : Lib.hasPrefix t [111, 110] = decide (t.take 2 = [111, 110]) := by
  match t with
  | [] => rfl
  | [a] => simp [Lib.hasPrefix, List.isPrefixOf]
  | a :: b :: t =>
    unfold Lib.hasPrefix
    simp only [List.isPrefixOf]
    rw [Bool.eq_iff_iff]
    simp only [Bool.and_eq_true, beq_iff_eq, decide_eq_true_eq]
    constructor
    · rintro ⟨rfl, rfl, _⟩; rfl
    · intro h
      have h : [a, b] = [111, 110] := h
      injection h with h1 h2
      injection h2 with h2 _
      exact ⟨h1.symm, h2.symm, trivial⟩
theorem st_text (st : Nat) (h : st ≤ 12) : ((stS st).toList == [84, 101, 120, 116]) = decide (st = 0) ∧ ((stS st).toList == [86, 97, 108, 117, 101]) = decide (st = 9) := by
  have hc : st = 0 ∨ st = 1 ∨ st = 2 ∨ st = 3 ∨ st = 4 ∨ st = 5 ∨ st = 6 ∨ st = 7 ∨ st = 8 ∨ st = 9 ∨ st = 10 ∨ st = 11 ∨ st = 12 := by omega
  rcases hc with rfl | rfl | rfl | rfl | rfl | rfl | rfl | rfl | rfl | rfl | rfl | rfl | rfl <;> exact ⟨by kernel_rfl, by kernel_rfl⟩
set_option maxHeartbeats 4000000 in
set_option maxRecDepth 100000 in
theorem placeR_any (x : Walk) (hst : x.st ≤ 12) (ha : x.attr.length ≤ 1000000) (w : World) :
    Calls Tryd.prog 35 #[walkV x] w fun e w' => e = .returned (.tuple #[.int .i64 (((placeL x.st x.attr x.filled).1 : Nat) : Int), .bool (placeL x.st x.attr x.filled).2]) ∧ Below w.heap.size w w' := by
  obtain ⟨st, el, at', seen, q, f⟩ := x
  dsimp only at hst ha ⊢
  obtain ⟨hs1, hs2⟩ := st_text st hst
  obtain ⟨R, hR⟩ : ∃ R, R = placeL st at' f := ⟨_, rfl⟩
  rw [← hR]
  have HR := Lib.hid hR; clear hR
  rw [show walkV ⟨st, el, at', seen, q, f⟩ = .agg #[.string (stS st), .string (bs el), .string (bs at'), .string (bs seen), .int .u8 ((q.toNat : Nat) : Int), .bool f] from rfl]
  have hz : (bs at').size = at'.length := bs_size at'
  have hto := fun (h : 2 ≤ at'.length) W => str_to at' 2 h W
  have HTO := Lib.hid hto; clear hto
  have q1 := eq_bs at' [115, 116, 121, 108, 101]
  have q2 := eq_bs at' [115, 114, 99, 100, 111, 99]
  have q3 := eq_bs at' [104, 114, 101, 102]
  have q4 := eq_bs at' [115, 114, 99]
  have q5 := eq_bs at' [97, 99, 116, 105, 111, 110]
  have q6 := eq_bs at' [99, 105, 116, 101]
  obtain ⟨SS, hSS⟩ : ∃ SS, SS = stS st := ⟨_, rfl⟩
  rw [← hSS] at hs1 hs2 ⊢
  clear hSS
  by_cases h0 : st = 0
  · rw [decide_eq_true h0] at hs1
    have hr : R = (0, true) := by rw [HR.out]; unfold placeL; rw [if_pos h0]
    have HRf := Lib.hid hr
    clear hr HR h0
    go_enter Tryd.func35, Tryd.ntmps35
    go_wp2_with fail
    go_ret2
    exact ⟨by rw [HRf.out]; rfl, (Below.refl _ w).alloc (Nat.le_refl _) _⟩
  · rw [decide_eq_false h0] at hs1
    by_cases h9 : st = 9
    · rw [decide_eq_true h9] at hs2
      by_cases h1 : at' = [115, 116, 121, 108, 101]
      · rw [show (at' == [115, 116, 121, 108, 101]) = true from by rw [beq_iff_eq]; exact h1] at q1
        have hr : R = (0, false) := by rw [HR.out]; unfold placeL; rw [if_neg h0, if_pos (.inr (.inl h1))]
        have HRf := Lib.hid hr
        clear hr HR h0 h9 h1
        go_enter Tryd.func35, Tryd.ntmps35
        go_wp2_with fail
        go_ret2
        exact ⟨by rw [HRf.out]; rfl, (Below.refl _ w).alloc (Nat.le_refl _) _⟩
      · rw [show (at' == [115, 116, 121, 108, 101]) = false from by rw [beq_eq_false_iff_ne]; exact h1] at q1
        by_cases h2 : at' = [115, 114, 99, 100, 111, 99]
        · rw [show (at' == [115, 114, 99, 100, 111, 99]) = true from by rw [beq_iff_eq]; exact h2] at q2
          have hr : R = (0, false) := by rw [HR.out]; unfold placeL; rw [if_neg h0, if_pos (.inr (.inr (.inl h2)))]
          have HRf := Lib.hid hr
          clear hr HR h0 h9 h1 h2
          go_enter Tryd.func35, Tryd.ntmps35
          go_wp2_with fail
          go_ret2
          exact ⟨by rw [HRf.out]; rfl, (Below.refl _ w).alloc (Nat.le_refl _) _⟩
        · rw [show (at' == [115, 114, 99, 100, 111, 99]) = false from by rw [beq_eq_false_iff_ne]; exact h2] at q2
          by_cases hl2 : 2 ≤ at'.length
          · have hx : ∀ W, (Instr.slice 9 (.string (bs at')) none (some (.int .i64 2)) none).run Tryd.prog W = .ok (.string (bs (at'.take 2))) W := HTO.out hl2
            have tge : decide (((at'.length : Nat) : Int) ≥ 2) = true := by rw [decide_eq_true_eq]; omega
            have tge2 : decide (2 ≤ at'.length) = true := by rw [decide_eq_true_eq]; omega
            by_cases ho : at'.take 2 = [111, 110]
            · have qo : ((bs (at'.take 2)).toList == [111, 110]) = true := by rw [bs_toList, beq_iff_eq]; exact ho
              have hon : Lib.hasPrefix at' [111, 110] = true := by rw [pre_on, ho]; rfl
              have hr : R = (0, false) := by rw [HR.out]; unfold placeL; rw [if_neg h0, if_pos (.inr (.inr (.inr hon)))]
              have HRf := Lib.hid hr
              clear hr HR h0 h9 h1 h2 hon ho
              generalize bs (at'.take 2) = XB at hx qo
              go_enter Tryd.func35, Tryd.ntmps35
              go_wp2_with fail
              go_ret2
              exact ⟨by rw [HRf.out]; rfl, (Below.refl _ w).alloc (Nat.le_refl _) _⟩
            · have qo : ((bs (at'.take 2)).toList == [111, 110]) = false := by rw [bs_toList, beq_eq_false_iff_ne]; exact ho
              have hon : ¬ Lib.hasPrefix at' [111, 110] = true := by rw [pre_on, decide_eq_false ho]; decide
              generalize bs (at'.take 2) = XB at hx qo
              clear ho
              by_cases h3 : at' = [104, 114, 101, 102]
              · rw [show (at' == [104, 114, 101, 102]) = true from by rw [beq_iff_eq]; exact h3] at q3
                by_cases hf : f = true
                · subst hf
                  have hr : R = (3, true) := by rw [HR.out]; unfold placeL; rw [if_neg h0, if_neg (by rintro (h | h | h | h); exact h h9; exact h1 h; exact h2 h; exact hon h)]; rw [if_neg (by rintro h; apply h; rw [h3]; decide)]; rfl
                  have HRf := Lib.hid hr
                  clear hr HR h3 h0 h9 h1 h2 hon
                  go_enter Tryd.func35, Tryd.ntmps35
                  go_wp2_with fail
                  go_ret2
                  exact ⟨by rw [HRf.out]; rfl, (Below.refl _ w).alloc (Nat.le_refl _) _⟩
                · have hf : f = false := by cases f with | true => exact absurd rfl hf | false => rfl
                  subst hf
                  have hr : R = (2, true) := by rw [HR.out]; unfold placeL; rw [if_neg h0, if_neg (by rintro (h | h | h | h); exact h h9; exact h1 h; exact h2 h; exact hon h)]; rw [if_neg (by rintro h; apply h; rw [h3]; decide)]; rfl
                  have HRf := Lib.hid hr
                  clear hr HR h3 h0 h9 h1 h2 hon
                  go_enter Tryd.func35, Tryd.ntmps35
                  go_wp2_with fail
                  go_ret2
                  exact ⟨by rw [HRf.out]; rfl, (Below.refl _ w).alloc (Nat.le_refl _) _⟩
              · rw [show (at' == [104, 114, 101, 102]) = false from by rw [beq_eq_false_iff_ne]; exact h3] at q3
                by_cases h4 : at' = [115, 114, 99]
                · rw [show (at' == [115, 114, 99]) = true from by rw [beq_iff_eq]; exact h4] at q4
                  by_cases hf : f = true
                  · subst hf
                    have hr : R = (3, true) := by rw [HR.out]; unfold placeL; rw [if_neg h0, if_neg (by rintro (h | h | h | h); exact h h9; exact h1 h; exact h2 h; exact hon h)]; rw [if_neg (by rintro h; apply h; rw [h4]; decide)]; rfl
                    have HRf := Lib.hid hr
                    clear hr HR h3 h4 h0 h9 h1 h2 hon
                    go_enter Tryd.func35, Tryd.ntmps35
                    go_wp2_with fail
                    go_ret2
                    exact ⟨by rw [HRf.out]; rfl, (Below.refl _ w).alloc (Nat.le_refl _) _⟩
                  · have hf : f = false := by cases f with | true => exact absurd rfl hf | false => rfl
                    subst hf
                    have hr : R = (2, true) := by rw [HR.out]; unfold placeL; rw [if_neg h0, if_neg (by rintro (h | h | h | h); exact h h9; exact h1 h; exact h2 h; exact hon h)]; rw [if_neg (by rintro h; apply h; rw [h4]; decide)]; rfl
                    have HRf := Lib.hid hr
                    clear hr HR h3 h4 h0 h9 h1 h2 hon
                    go_enter Tryd.func35, Tryd.ntmps35
                    go_wp2_with fail
                    go_ret2
                    exact ⟨by rw [HRf.out]; rfl, (Below.refl _ w).alloc (Nat.le_refl _) _⟩
                · rw [show (at' == [115, 114, 99]) = false from by rw [beq_eq_false_iff_ne]; exact h4] at q4
                  by_cases h5 : at' = [97, 99, 116, 105, 111, 110]
                  · rw [show (at' == [97, 99, 116, 105, 111, 110]) = true from by rw [beq_iff_eq]; exact h5] at q5
                    by_cases hf : f = true
                    · subst hf
                      have hr : R = (3, true) := by rw [HR.out]; unfold placeL; rw [if_neg h0, if_neg (by rintro (h | h | h | h); exact h h9; exact h1 h; exact h2 h; exact hon h)]; rw [if_neg (by rintro h; apply h; rw [h5]; decide)]; rfl
                      have HRf := Lib.hid hr
                      clear hr HR h3 h4 h5 h0 h9 h1 h2 hon
                      go_enter Tryd.func35, Tryd.ntmps35
                      go_wp2_with fail
                      go_ret2
                      exact ⟨by rw [HRf.out]; rfl, (Below.refl _ w).alloc (Nat.le_refl _) _⟩
                    · have hf : f = false := by cases f with | true => exact absurd rfl hf | false => rfl
                      subst hf
                      have hr : R = (2, true) := by rw [HR.out]; unfold placeL; rw [if_neg h0, if_neg (by rintro (h | h | h | h); exact h h9; exact h1 h; exact h2 h; exact hon h)]; rw [if_neg (by rintro h; apply h; rw [h5]; decide)]; rfl
                      have HRf := Lib.hid hr
                      clear hr HR h3 h4 h5 h0 h9 h1 h2 hon
                      go_enter Tryd.func35, Tryd.ntmps35
                      go_wp2_with fail
                      go_ret2
                      exact ⟨by rw [HRf.out]; rfl, (Below.refl _ w).alloc (Nat.le_refl _) _⟩
                  · rw [show (at' == [97, 99, 116, 105, 111, 110]) = false from by rw [beq_eq_false_iff_ne]; exact h5] at q5
                    by_cases h6 : at' = [99, 105, 116, 101]
                    · rw [show (at' == [99, 105, 116, 101]) = true from by rw [beq_iff_eq]; exact h6] at q6
                      by_cases hf : f = true
                      · subst hf
                        have hr : R = (3, true) := by rw [HR.out]; unfold placeL; rw [if_neg h0, if_neg (by rintro (h | h | h | h); exact h h9; exact h1 h; exact h2 h; exact hon h)]; rw [if_neg (by rintro h; apply h; rw [h6]; decide)]; rfl
                        have HRf := Lib.hid hr
                        clear hr HR h3 h4 h5 h6 h0 h9 h1 h2 hon
                        go_enter Tryd.func35, Tryd.ntmps35
                        go_wp2_with fail
                        go_ret2
                        exact ⟨by rw [HRf.out]; rfl, (Below.refl _ w).alloc (Nat.le_refl _) _⟩
                      · have hf : f = false := by cases f with | true => exact absurd rfl hf | false => rfl
                        subst hf
                        have hr : R = (2, true) := by rw [HR.out]; unfold placeL; rw [if_neg h0, if_neg (by rintro (h | h | h | h); exact h h9; exact h1 h; exact h2 h; exact hon h)]; rw [if_neg (by rintro h; apply h; rw [h6]; decide)]; rfl
                        have HRf := Lib.hid hr
                        clear hr HR h3 h4 h5 h6 h0 h9 h1 h2 hon
                        go_enter Tryd.func35, Tryd.ntmps35
                        go_wp2_with fail
                        go_ret2
                        exact ⟨by rw [HRf.out]; rfl, (Below.refl _ w).alloc (Nat.le_refl _) _⟩
                    · rw [show (at' == [99, 105, 116, 101]) = false from by rw [beq_eq_false_iff_ne]; exact h6] at q6
                      have hr : R = (1, true) := by rw [HR.out]; unfold placeL; rw [if_neg h0, if_neg (by rintro (h | h | h | h); exact h h9; exact h1 h; exact h2 h; exact hon h)]; rw [if_pos (by unfold urlA; simp [h3, h4, h5, h6])]
                      have HRf := Lib.hid hr
                      clear hr HR h3 h4 h5 h6 h0 h9 h1 h2 hon
                      go_enter Tryd.func35, Tryd.ntmps35
                      go_wp2_with fail
                      go_ret2
                      exact ⟨by rw [HRf.out]; rfl, (Below.refl _ w).alloc (Nat.le_refl _) _⟩
          · have tge : decide (((at'.length : Nat) : Int) ≥ 2) = false := by rw [decide_eq_false_iff_not]; omega
            have tge2 : decide (2 ≤ at'.length) = false := by rw [decide_eq_false_iff_not]; omega
            have hon : ¬ Lib.hasPrefix at' [111, 110] = true := by
              rw [pre_on]
              intro h
              have h := congrArg List.length (of_decide_eq_true h)
              rw [List.length_take] at h
              simp at h
              omega
            by_cases h3 : at' = [104, 114, 101, 102]
            · rw [show (at' == [104, 114, 101, 102]) = true from by rw [beq_iff_eq]; exact h3] at q3
              by_cases hf : f = true
              · subst hf
                have hr : R = (3, true) := by rw [HR.out]; unfold placeL; rw [if_neg h0, if_neg (by rintro (h | h | h | h); exact h h9; exact h1 h; exact h2 h; exact hon h)]; rw [if_neg (by rintro h; apply h; rw [h3]; decide)]; rfl
                have HRf := Lib.hid hr
                clear hr HR h3 h0 h9 h1 h2 hon
                go_enter Tryd.func35, Tryd.ntmps35
                go_wp2_with fail
                go_ret2
                exact ⟨by rw [HRf.out]; rfl, (Below.refl _ w).alloc (Nat.le_refl _) _⟩
              · have hf : f = false := by cases f with | true => exact absurd rfl hf | false => rfl
                subst hf
                have hr : R = (2, true) := by rw [HR.out]; unfold placeL; rw [if_neg h0, if_neg (by rintro (h | h | h | h); exact h h9; exact h1 h; exact h2 h; exact hon h)]; rw [if_neg (by rintro h; apply h; rw [h3]; decide)]; rfl
                have HRf := Lib.hid hr
                clear hr HR h3 h0 h9 h1 h2 hon
                go_enter Tryd.func35, Tryd.ntmps35
                go_wp2_with fail
                go_ret2
                exact ⟨by rw [HRf.out]; rfl, (Below.refl _ w).alloc (Nat.le_refl _) _⟩
            · rw [show (at' == [104, 114, 101, 102]) = false from by rw [beq_eq_false_iff_ne]; exact h3] at q3
              by_cases h4 : at' = [115, 114, 99]
              · rw [show (at' == [115, 114, 99]) = true from by rw [beq_iff_eq]; exact h4] at q4
                by_cases hf : f = true
                · subst hf
                  have hr : R = (3, true) := by rw [HR.out]; unfold placeL; rw [if_neg h0, if_neg (by rintro (h | h | h | h); exact h h9; exact h1 h; exact h2 h; exact hon h)]; rw [if_neg (by rintro h; apply h; rw [h4]; decide)]; rfl
                  have HRf := Lib.hid hr
                  clear hr HR h3 h4 h0 h9 h1 h2 hon
                  go_enter Tryd.func35, Tryd.ntmps35
                  go_wp2_with fail
                  go_ret2
                  exact ⟨by rw [HRf.out]; rfl, (Below.refl _ w).alloc (Nat.le_refl _) _⟩
                · have hf : f = false := by cases f with | true => exact absurd rfl hf | false => rfl
                  subst hf
                  have hr : R = (2, true) := by rw [HR.out]; unfold placeL; rw [if_neg h0, if_neg (by rintro (h | h | h | h); exact h h9; exact h1 h; exact h2 h; exact hon h)]; rw [if_neg (by rintro h; apply h; rw [h4]; decide)]; rfl
                  have HRf := Lib.hid hr
                  clear hr HR h3 h4 h0 h9 h1 h2 hon
                  go_enter Tryd.func35, Tryd.ntmps35
                  go_wp2_with fail
                  go_ret2
                  exact ⟨by rw [HRf.out]; rfl, (Below.refl _ w).alloc (Nat.le_refl _) _⟩
              · rw [show (at' == [115, 114, 99]) = false from by rw [beq_eq_false_iff_ne]; exact h4] at q4
                by_cases h5 : at' = [97, 99, 116, 105, 111, 110]
                · rw [show (at' == [97, 99, 116, 105, 111, 110]) = true from by rw [beq_iff_eq]; exact h5] at q5
                  by_cases hf : f = true
                  · subst hf
                    have hr : R = (3, true) := by rw [HR.out]; unfold placeL; rw [if_neg h0, if_neg (by rintro (h | h | h | h); exact h h9; exact h1 h; exact h2 h; exact hon h)]; rw [if_neg (by rintro h; apply h; rw [h5]; decide)]; rfl
                    have HRf := Lib.hid hr
                    clear hr HR h3 h4 h5 h0 h9 h1 h2 hon
                    go_enter Tryd.func35, Tryd.ntmps35
                    go_wp2_with fail
                    go_ret2
                    exact ⟨by rw [HRf.out]; rfl, (Below.refl _ w).alloc (Nat.le_refl _) _⟩
                  · have hf : f = false := by cases f with | true => exact absurd rfl hf | false => rfl
                    subst hf
                    have hr : R = (2, true) := by rw [HR.out]; unfold placeL; rw [if_neg h0, if_neg (by rintro (h | h | h | h); exact h h9; exact h1 h; exact h2 h; exact hon h)]; rw [if_neg (by rintro h; apply h; rw [h5]; decide)]; rfl
                    have HRf := Lib.hid hr
                    clear hr HR h3 h4 h5 h0 h9 h1 h2 hon
                    go_enter Tryd.func35, Tryd.ntmps35
                    go_wp2_with fail
                    go_ret2
                    exact ⟨by rw [HRf.out]; rfl, (Below.refl _ w).alloc (Nat.le_refl _) _⟩
                · rw [show (at' == [97, 99, 116, 105, 111, 110]) = false from by rw [beq_eq_false_iff_ne]; exact h5] at q5
                  by_cases h6 : at' = [99, 105, 116, 101]
                  · rw [show (at' == [99, 105, 116, 101]) = true from by rw [beq_iff_eq]; exact h6] at q6
                    by_cases hf : f = true
                    · subst hf
                      have hr : R = (3, true) := by rw [HR.out]; unfold placeL; rw [if_neg h0, if_neg (by rintro (h | h | h | h); exact h h9; exact h1 h; exact h2 h; exact hon h)]; rw [if_neg (by rintro h; apply h; rw [h6]; decide)]; rfl
                      have HRf := Lib.hid hr
                      clear hr HR h3 h4 h5 h6 h0 h9 h1 h2 hon
                      go_enter Tryd.func35, Tryd.ntmps35
                      go_wp2_with fail
                      go_ret2
                      exact ⟨by rw [HRf.out]; rfl, (Below.refl _ w).alloc (Nat.le_refl _) _⟩
                    · have hf : f = false := by cases f with | true => exact absurd rfl hf | false => rfl
                      subst hf
                      have hr : R = (2, true) := by rw [HR.out]; unfold placeL; rw [if_neg h0, if_neg (by rintro (h | h | h | h); exact h h9; exact h1 h; exact h2 h; exact hon h)]; rw [if_neg (by rintro h; apply h; rw [h6]; decide)]; rfl
                      have HRf := Lib.hid hr
                      clear hr HR h3 h4 h5 h6 h0 h9 h1 h2 hon
                      go_enter Tryd.func35, Tryd.ntmps35
                      go_wp2_with fail
                      go_ret2
                      exact ⟨by rw [HRf.out]; rfl, (Below.refl _ w).alloc (Nat.le_refl _) _⟩
                  · rw [show (at' == [99, 105, 116, 101]) = false from by rw [beq_eq_false_iff_ne]; exact h6] at q6
                    have hr : R = (1, true) := by rw [HR.out]; unfold placeL; rw [if_neg h0, if_neg (by rintro (h | h | h | h); exact h h9; exact h1 h; exact h2 h; exact hon h)]; rw [if_pos (by unfold urlA; simp [h3, h4, h5, h6])]
                    have HRf := Lib.hid hr
                    clear hr HR h3 h4 h5 h6 h0 h9 h1 h2 hon
                    go_enter Tryd.func35, Tryd.ntmps35
                    go_wp2_with fail
                    go_ret2
                    exact ⟨by rw [HRf.out]; rfl, (Below.refl _ w).alloc (Nat.le_refl _) _⟩
    · rw [decide_eq_false h9] at hs2
      have hr : R = (0, false) := by rw [HR.out]; unfold placeL; rw [if_neg h0, if_pos (.inl h9)]
      have HRf := Lib.hid hr
      clear hr HR h0 h9
      go_enter Tryd.func35, Tryd.ntmps35
      go_wp2_with fail
      go_ret2
      exact ⟨by rw [HRf.out]; rfl, (Below.refl _ w).alloc (Nat.le_refl _) _⟩
end Go.Proofs.YthilkpjdfjjikaaDoor
