/-
  The document's Tag.
-/
import Derived.Test.YtcpkkaimingnlaaGreatDoorFA
import Derived.Test.YtcpkkaimingnlaaGreatDoorMI
set_option linter.unusedVariables false
set_option linter.unusedSimpArgs false
namespace Go.Proofs.YtcpkkaimingnlaaGreatDoor
open Go.RowKit

theorem tag_bad {s : Bs} {j : Nat} (hj : j < s.length) (h : badB (s.getD j 0) = true) : tagP s = [] := by
  unfold tagP
  rw [if_neg]
  rw [tagOk_any]
  have : s.any badB = true := by
    rw [List.any_eq_true]
    exact ⟨s.getD j 0, by simp [hj], h⟩
  rw [this]
  simp
theorem tag_good {s : Bs} (h : ∀ k, k < s.length → badB (s.getD k 0) = false) : tagP s = if 200 < s.length then [] else s := by
  unfold tagP
  rw [tagOk_any]
  have : s.any badB = false := by
    rw [List.any_eq_false]
    intro x hx
    obtain ⟨k, hk, rfl⟩ := List.getElem_of_mem hx
    have := h k hk
    rw [show s.getD k 0 = s[k] by simp [hk]] at this
    rw [this]; decide
  rw [this]
  by_cases hl : 200 < s.length
  · rw [if_pos hl, decide_eq_false (by omega)]; rfl
  · rw [if_neg hl, decide_eq_true (by omega)]; rfl
set_option maxHeartbeats 2000000 in
set_option maxRecDepth 100000 in
theorem rtag_any (s : Bs) (w : World) (hl : s.length ≤ 1000000) : Calls Tryz.prog 70 #[.string (bs s)] w fun e w' => e = .returned (.string (bs (tagP s))) ∧ Below w.heap.size w w' := by
  have hz : (bs s).size = s.length := bs_size s
  have HX := Lib.hid (fun (i : Nat) (h : i < s.length) (w : World) => str_byte s i h w)
  obtain ⟨T, hT⟩ : ∃ T, T = bs (tagP s) := ⟨_, rfl⟩
  rw [← hT]
  have HT := Lib.hid hT
  clear hT
  obtain ⟨S, hS⟩ : ∃ S, S = bs s := ⟨_, rfl⟩
  rw [← hS] at hz ⊢
  simp only [← hS] at HX
  obtain ⟨n, hn⟩ : ∃ n, n = s.length := ⟨_, rfl⟩
  rw [← hn] at hz hl
  have HS := Lib.hid hS; have Hn := Lib.hid hn
  clear hS hn
  go_enter Tryz.func70, Tryz.ntmps70
  go_wp2_with fail
  go_loopw [3] (fun i wr => ∃ j : Nat, i = .int .i64 (j : Int) ∧ j ≤ n ∧ Hid (∀ k, k < j → badB (s.getD k 0) = false) ∧ Hid (Below w.heap.size w wr)) (fun i _ => n - (intOf i).toNat)
  case atStart => exact ⟨0, rfl, Nat.zero_le _, Lib.hid (fun k hk => by omega), Lib.hid (Below.refl _ _)⟩
  case round =>
    obtain ⟨j, rfl, hj, HG, HB⟩ := hrel
    by_cases hjn : j < n
    · have tj : decide ((j : Int) < (n : Int)) = true := by rw [decide_eq_true_eq]; omega
      have hjl : j < s.length := by rw [← Hn.out]; omega
      have hx := fun W => HX.out j hjl W
      have hbd : badB (s.getD j 0) = (decide ((s.getD j 0).toNat < 32) || decide (126 < (s.getD j 0).toNat)) := by
        unfold badB
        rw [Bool.eq_iff_iff]
        simp
      have HBD := Lib.hid hbd
      clear hbd
      generalize hcc : (s.getD j 0).toNat = c at *
      clear hcc
      obtain ⟨b1, hb1⟩ : ∃ b, b = decide (c < 32) := ⟨_, rfl⟩
      obtain ⟨b2, hb2⟩ : ∃ b, b = decide (126 < c) := ⟨_, rfl⟩
      rw [← hb1, ← hb2] at HBD
      have q1 : decide ((c : Int) < 32) = b1 := by rw [hb1, Bool.eq_iff_iff, decide_eq_true_eq, decide_eq_true_eq]; omega
      have q2 : decide ((c : Int) > 126) = b2 := by rw [hb2, Bool.eq_iff_iff, decide_eq_true_eq, decide_eq_true_eq]; omega
      have q3 : decide (c < 32) = b1 := hb1.symm
      have q4 : decide (126 < c) = b2 := hb2.symm
      clear hb1 hb2
      cases b1 with
      | true =>
        have e := Lib.hid (tag_bad hjl HBD.out)
        clear HBD HG
        go_wp2_with fail
        go_ret
        exact ⟨by rw [HT.out, e.out]; rfl, HB.out⟩
      | false =>
        cases b2 with
        | true =>
          have e := Lib.hid (tag_bad hjl HBD.out)
          clear HBD HG
          go_wp2_with fail
          go_ret
          exact ⟨by rw [HT.out, e.out]; rfl, HB.out⟩
        | false =>
          have hg2 : Hid (∀ k, k < j + 1 → badB (s.getD k 0) = false) := Lib.hid (fun k hk => by
            by_cases h : k = j
            · rw [h]; exact HBD.out
            · exact HG.out k (by omega))
          clear HBD HG
          go_wp2_with fail
          exact ⟨⟨j + 1, by go_num, by omega, hg2, HB⟩, by simp [intOf]; omega⟩
    · have tj : decide ((j : Int) < (n : Int)) = false := by rw [decide_eq_false_iff_not]; omega
      have e := Lib.hid (tag_good (s := s) (fun k hk => HG.out k (by rw [← Hn.out] at hk; omega)))
      rw [← Hn.out] at e
      clear HG
      by_cases h2 : 200 < n
      · have t1 : decide ((n : Int) > 200) = true := decide_eq_true (by omega)
        have t2 : decide (200 < n) = true := decide_eq_true h2
        rw [if_pos h2] at e
        go_wp2_with fail
        go_ret
        exact ⟨by rw [HT.out, e.out]; rfl, HB.out⟩
      · have t1 : decide ((n : Int) > 200) = false := decide_eq_false (by omega)
        have t2 : decide (200 < n) = false := decide_eq_false h2
        rw [if_neg h2] at e
        go_wp2_with fail
        go_ret
        exact ⟨by rw [HT.out, e.out, HS.out]; rfl, HB.out⟩
end Go.Proofs.YtcpkkaimingnlaaGreatDoor
