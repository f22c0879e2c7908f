/-
  The reference's Cut.
-/
import Derived.Test.YtpmndnijejnhnaaDoorLaw
namespace Go.Proofs.YtpmndnijejnhnaaDoor
open Go.RowKit

theorem own_zero (w : World) (e : TypeId) : (w.alloc (.cells #[] e)).ownsRow w.heap.size e 1 (.slice (some ⟨w.heap.size, 0, none⟩) 0 0) 0 [] :=
  ⟨by simp, .inr ⟨w.heap.size, 0, _, rfl, Nat.le_refl _, heap_alloc_new w _, Nat.le_refl _, by unfold maxLen; omega, by simp, by simp⟩⟩
theorem Rd.upto {w : World} {B n k : Nat} {A : Option Addr} {xs : List Value} (h : Rd w B 1 A n xs) (hk : k ≤ n) : Rd w B 1 A k (xs.take k) := by
  have hl := h.1
  refine ⟨by rw [List.length_take]; omega, fun hn => ?_⟩
  obtain ⟨b, off, rfl, hb, hcell⟩ := h.2 (by omega)
  refine ⟨b, off, rfl, hb, fun j hj => ?_⟩
  rw [hcell j (by omega), List.getElem?_take_of_lt (by omega)]
theorem ints_take (l : List Int) (k : Nat) : (ints l).take k = ints (l.take k) := by unfold ints; rw [List.map_take]

set_option maxHeartbeats 4000000 in
set_option maxRecDepth 100000 in
theorem rcut_any (l : List UInt8) (n : Int) (w : World) (hl : l.length ≤ 10000) (hn0 : -9223372036854775808 ≤ n) (hn1 : n ≤ 9223372036854775807) :
    Calls Tryd.prog 20 #[.string ⟨l.toArray⟩, .int .i64 n] w fun e w' => e = .returned (.string ⟨(cutL n l).toArray⟩) ∧ Below w.heap.size w w' := by
  have hlen := fixedL_length l
  have hpt := fixedL_pts l
  have H16 := Lib.hid (fixed_any l w hl)
  show Calls Tryd.prog 20 #[.string ⟨l.toArray⟩, .int .i64 n] w fun e w' => e = .returned (.string ⟨(textL (cutP n (fixedL l))).toArray⟩) ∧ Below w.heap.size w w'
  obtain ⟨P, hP⟩ : ∃ P, P = fixedL l := ⟨_, rfl⟩
  rw [← hP] at H16 hlen hpt ⊢
  clear hP
  obtain ⟨m, hm⟩ : ∃ m, m = P.length := ⟨_, rfl⟩
  rw [← hm] at H16 hlen
  have Hm := Lib.hid hm; have Hpt := Lib.hid hpt; clear hm hpt
  by_cases h1 : n < 1
  · have t1 : decide (n < 1) = true := by rw [decide_eq_true_eq]; exact h1
    have hc : cutP n P = [] := if_pos h1
    have Hc := Lib.hid hc; clear hc
    go_enter Tryd.func20, Tryd.ntmps20
    go_wp2_with fail
    refine H16.out.mono ?_
    rintro e w1 ⟨v1, rfl, o1, b1⟩
    obtain ⟨A1, c1, rfl, hc1, _⟩ := own_form o1
    clear H16 o1
    go_wp2_with fail
    go_ret
    exact ⟨by rw [Hc.out]; rfl, b1⟩
  · obtain ⟨K, rfl⟩ : ∃ K : Nat, n = (K : Int) + 1 := ⟨(n - 1).toNat, by omega⟩
    have t1 : decide ((K : Int) + 1 < 1) = false := by rw [decide_eq_false_iff_not]; exact h1
    by_cases h2 : K + 1 < m
    · have t2 : decide ((m : Int) > (K : Int) + 1) = true := by rw [decide_eq_true_eq]; omega
      have hc : cutP ((K : Int) + 1) P = P.take K ++ [8230] := by
        unfold cutP
        rw [if_neg h1, if_pos (by rw [← Hm.out]; omega), show ((K : Int) + 1 - 1).toNat = K by omega]
      have hcp := cut_pts ((K : Int) + 1) P Hpt.out
      rw [hc] at hcp
      have Hc := Lib.hid hc; have Hcp := Lib.hid hcp; clear hc hcp
      have hK : (K : Int) + 1 - 1 = (K : Int) := by omega
      have hlt : (P.take K).length = K := by rw [List.length_take, ← Hm.out]; omega
      have Hlt := Lib.hid hlt; clear hlt
      go_enter Tryd.func20, Tryd.ntmps20
      go_wp2_with fail
      refine H16.out.mono ?_
      rintro e w1 ⟨v1, rfl, o1, b1⟩
      obtain ⟨A1, c1, rfl, hc1, _⟩ := own_form o1
      have hrd := (Rd.of_own o1).upto (k := K) (by omega)
      rw [ints_take] at hrd
      have Hr := Lib.hid hrd
      have hs1 := b1.size
      clear H16 o1 hrd
      have HrA := Lib.hid (Hr.out.keep ((Below.refl w1.heap.size w1).alloc (Nat.le_refl _) (.cells #[] 3)))
      have Hz := Lib.hid (own_zero w1 3)
      have hbA := (Below.refl w1.heap.size w1).alloc (Nat.le_refl _) (.cells #[] 3)
      have hsA : w1.heap.size ≤ (w1.alloc (.cells #[] 3)).heap.size := by simp
      obtain ⟨W1, hW1⟩ : ∃ W1, W1 = w1.alloc (.cells #[] 3) := ⟨_, rfl⟩
      rw [← hW1] at HrA Hz hbA hsA
      go_wp2_with (first
        | (at_builtin; rw [← hW1]; clear hW1; refine wpList_appendRd rfl (.tmp 14) (.tmp 18) 25 rfl w1.heap.size 3 (.int .i64 0) 1 8 Tryd.underlying25 (by kernel_rfl) rfl (by decide) _ 0 [] rfl Hz.out _ A1 K c1 (ints (P.take K)) rfl HrA.out (ints_one _) (by omega) (by omega) hsA ?_; intro A4 cap4 w4 hown4 hb4 _; rw [Nat.zero_add, List.nil_append] at hown4; have hs4 := hb4.size; have Hown4 := Lib.hid hown4; clear hown4; rw [Nat.zero_add])
        | (at_builtin; refine wpList_push rfl (.tmp 19) (.tmp 20) 25 rfl w1.heap.size 3 (.int .i64 0) 1 8 Tryd.underlying25 (by kernel_rfl) rfl (by decide) _ _ _ rfl Hown4.out _ 1 (by decide) rfl rfl rfl (by omega) (by omega) (by omega) ?_; intro g5 cap5 w5 hown5 hg5 hb5; rw [ints_snoc] at hown5; have Hown5 := Lib.hid hown5; clear hown5))
      have hown5 := Hown5.out
      have hcl : K + 1 ≤ cap5 := by
        obtain ⟨A6, c6, e6, hc6, _⟩ := own_form hown5
        cases e6; exact hc6
      have hql : K + 1 = (P.take K ++ [8230]).length := by rw [List.length_append, Hlt.out]; rfl
      have hr5 := Rd.of_own hown5
      rw [hql] at hr5
      have H22 := Lib.hid (text_any (P.take K ++ [8230]) _ cap5 w5.heap.size w5 hr5 (Nat.le_refl _) (by rw [← hql]; exact hcl) (by rw [← hql]; omega) (fun p hp => isPt_range (Hcp.out p hp)))
      rw [← hql] at H22
      have hs5 := hb5.size
      clear hown5 hql hr5
      refine H22.out.mono ?_
      rintro e w' ⟨rfl, hb⟩
      go_wp2_with fail
      go_ret
      exact ⟨by rw [Hc.out]; rfl, b1.trans ((hbA.trans (hb4.trans (hb5.trans (hb.mono (by omega))))).mono hs1)⟩
    · have t2 : decide ((m : Int) > (K : Int) + 1) = false := by rw [decide_eq_false_iff_not]; omega
      have hc : cutP ((K : Int) + 1) P = P := by
        unfold cutP
        rw [if_neg h1, if_neg (by rw [← Hm.out]; omega)]
      have Hc := Lib.hid hc; clear hc
      go_enter Tryd.func20, Tryd.ntmps20
      go_wp2_with fail
      refine H16.out.mono ?_
      rintro e w1 ⟨v1, rfl, o1, b1⟩
      obtain ⟨A1, c1, rfl, hc1, _⟩ := own_form o1
      have hr2 : Rd w1 w1.heap.size 1 A1 P.length (ints P) := by rw [← Hm.out]; exact Rd.of_own o1
      have H22 := Lib.hid (text_any P A1 c1 w1.heap.size w1 hr2 (Nat.le_refl _) (by rw [← Hm.out]; exact hc1) (by rw [← Hm.out]; omega) (fun p hp => isPt_range (Hpt.out p hp)))
      rw [← Hm.out] at H22
      have hs1 := b1.size
      clear H16 o1 hr2
      go_wp2_with fail
      refine H22.out.mono ?_
      rintro e w' ⟨rfl, hb⟩
      go_wp2_with fail
      go_ret
      exact ⟨by rw [Hc.out]; rfl, b1.trans (hb.mono hs1)⟩
end Go.Proofs.YtpmndnijejnhnaaDoor
