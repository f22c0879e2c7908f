/-
  Small functions of link, walked.
-/
import Derived.Test.YtcpkkaimingnlaaGreatDoorLst
namespace Go.Proofs.YtcpkkaimingnlaaGreatDoor
open Go.RowKit

set_option maxHeartbeats 1000000 in
theorem letter_any (c : UInt8) (w : World) : Calls Tryz.prog 44 #[u8v c] w fun e w' => e = .returned (.bool (alB c)) ∧ w' = w := by
  have hl := c.toNat_lt
  unfold u8v
  obtain ⟨n, hn⟩ : ∃ n, n = c.toNat := ⟨_, rfl⟩
  have hb : alB c = (decide (97 ≤ n) && decide (n ≤ 122) || decide (65 ≤ n) && decide (n ≤ 90) || decide (48 ≤ n) && decide (n ≤ 57)) := by unfold alB; rw [hn]
  rw [hb, ← hn]
  clear hb hn
  go_enter Tryz.func44, Tryz.ntmps44
  go_wp2_with fail
  all_goals go_ret
  all_goals refine ⟨congrArg (fun b => Ending.returned (Value.bool b)) ?_, rfl⟩
  all_goals rw [Bool.eq_iff_iff]
  all_goals simp
  all_goals omega
theorem u8_beq (c d : UInt8) (k : Nat) (hd : d.toNat = k) : ((c.toNat : Int) == (k : Int)) = (c == d) := by
  subst hd
  rw [Bool.eq_iff_iff, beq_iff_eq, beq_iff_eq, ← UInt8.toNat_inj]
  omega
set_option maxHeartbeats 1000000 in
theorem host_fn (c : UInt8) (w : World) : Calls Tryz.prog 43 #[u8v c] w fun e w' => e = .returned (.bool (hostB c)) ∧ w' = w := by
  have h44 := letter_any c
  have e1 := u8_beq c 45 45 rfl
  have e2 := u8_beq c 46 46 rfl
  unfold hostB
  rw [← e1, ← e2]
  generalize alB c = b at *
  unfold u8v at *
  obtain ⟨n, hn⟩ : ∃ n, n = c.toNat := ⟨_, rfl⟩
  rw [← hn] at h44 ⊢
  have H44 := Lib.hid h44
  clear h44 e1 e2 hn
  cases b
  all_goals
    go_enter Tryz.func43, Tryz.ntmps43
    go_wp2_with (go_at_call 44; refine (H44.out _).mono ?_; rintro e w' ⟨rfl, rfl⟩)
    all_goals go_ret
    all_goals exact ⟨by simp [*], rfl⟩
set_option maxHeartbeats 2000000 in
set_option maxRecDepth 100000 in
theorem all43_any (s : Bs) (w : World) (hl : s.length ≤ 1000000) :
    Calls Tryz.prog 42 #[.string (bs s), .func (.func 43) #[] #[]] w fun e w' => e = .returned (.bool (s.all hostB)) ∧ w' = w := by
  have eg : ∀ args w, (callFunc 43 args).run Tryz.prog w = .ok (.enter 43 args) w := enters_of Tryz.func43 (by kernel_rfl) rfl
  have hz : (bs s).size = s.length := bs_size s
  have HX := Lib.hid (fun (i : Nat) (h : i < s.length) (w : World) => str_byte s i h w)
  obtain ⟨R, hR⟩ : ∃ R, R = s.all hostB := ⟨_, rfl⟩
  rw [← hR]
  obtain ⟨S, hS⟩ : ∃ S, S = bs s := ⟨_, rfl⟩
  rw [← hS] at hz ⊢
  simp only [← hS] at HX
  obtain ⟨n, hn⟩ : ∃ n, n = s.length := ⟨_, rfl⟩
  rw [← hn] at hz hl
  have HR := Lib.hid hR; have Hn := Lib.hid hn
  clear hR hS hn
  go_enter Tryz.func42, Tryz.ntmps42
  go_wp2_with fail
  go_loop [8] (fun i => ∃ j : Nat, i = .int .i64 (j : Int) ∧ j ≤ n ∧ (s.take j).all hostB = true) (fun i => n - (intOf i).toNat)
  case atStart => exact ⟨0, rfl, Nat.zero_le _, rfl⟩
  case round =>
    obtain ⟨j, rfl, hj, hall⟩ := hrel
    have HA := Lib.hid hall
    clear hall
    by_cases hjn : j < n
    · have tj : decide ((j : Int) < (n : Int)) = true := by rw [decide_eq_true_eq]; omega
      have hx := fun W => HX.out j (by rw [← Hn.out]; exact hjn) W
      have hts : s.take (j + 1) = s.take j ++ [s.getD j 0] := by
        have hjl : j < s.length := by rw [← Hn.out]; exact hjn
        rw [List.take_succ_eq_append_getElem hjl]; simp [hjl]
      have hmem : s.getD j 0 ∈ s := by
        have hjl : j < s.length := by rw [← Hn.out]; exact hjn
        simp [hjl]
      have hC := host_fn (s.getD j 0)
      obtain ⟨c, hc⟩ : ∃ c, c = s.getD j 0 := ⟨_, rfl⟩
      rw [← hc] at hts hmem hC
      simp only [← hc] at hx
      have HTS := Lib.hid hts; have HM := Lib.hid hmem
      clear hc hts hmem
      unfold u8v at hC
      cases hp : hostB c with
      | true =>
        rw [hp] at hC
        have HC := Lib.hid hC
        have e1 : (s.take (j + 1)).all hostB = true := by rw [HTS.out, List.all_append, HA.out]; simp [hp]
        have E1 := Lib.hid e1
        clear e1 hC hp
        go_wp2_with (go_at_fn 43; refine (HC.out _).mono ?_; rintro e w9 ⟨rfl, rfl⟩)
        exact ⟨⟨j + 1, by go_num, by omega, E1.out⟩, by simp [intOf]; omega⟩
      | false =>
        rw [hp] at hC
        have HC := Lib.hid hC
        have e1 : R = false := by
          rw [HR.out]
          cases h : s.all hostB with
          | false => rfl
          | true => exact absurd (List.all_eq_true.1 h c HM.out) (by rw [hp]; decide)
        have E1 := Lib.hid e1
        clear e1 hC hp
        go_wp2_with (go_at_fn 43; refine (HC.out _).mono ?_; rintro e w9 ⟨rfl, rfl⟩)
        go_ret
        exact ⟨by rw [E1.out]; rfl, rfl⟩
    · obtain rfl : j = n := by omega
      have tj : decide ((j : Int) < (j : Int)) = false := by rw [decide_eq_false_iff_not]; omega
      have e1 : R = true := by
        rw [HR.out]
        have := HA.out
        rwa [List.take_of_length_le (by rw [← Hn.out]; exact Nat.le_refl _)] at this
      have E1 := Lib.hid e1
      clear e1
      go_wp2_with fail
      go_ret
      exact ⟨by rw [E1.out]; rfl, rfl⟩
end Go.Proofs.YtcpkkaimingnlaaGreatDoor
