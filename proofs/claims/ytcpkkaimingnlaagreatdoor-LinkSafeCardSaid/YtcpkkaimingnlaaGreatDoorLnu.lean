/-
  The document's digit and Number.
-/
import Derived.Test.YtcpkkaimingnlaaGreatDoorLby
namespace Go.Proofs.YtcpkkaimingnlaaGreatDoor
open Go.RowKit

def digE (n b : Int) : Int :=
  let d := if 48 ≤ n ∧ n ≤ 57 then n - 48 else if 97 ≤ n ∧ n ≤ 102 then n - 87 else if 65 ≤ n ∧ n ≤ 70 then n - 55 else -1
  if b ≤ d then -1 else d
def digI (o : Option Nat) : Int := match o with | none => -1 | some d => (d : Int)
theorem digE_eq (c : UInt8) (b : Nat) (hb : 0 < b) : digE ((c.toNat : Nat) : Int) ((b : Nat) : Int) = digI (digR c b) := by
  unfold digE digR digB
  dsimp only
  simp only [Bool.and_eq_true, decide_eq_true_eq]
  by_cases h1 : 48 ≤ c.toNat ∧ c.toNat ≤ 57
  · rw [if_pos h1, if_pos (show (48 : Int) ≤ ((c.toNat : Nat) : Int) ∧ ((c.toNat : Nat) : Int) ≤ 57 by omega)]
    show _ = digI (if b ≤ c.toNat - 48 then none else some _)
    split
    · rw [if_pos (by omega)]; rfl
    · rw [if_neg (by omega)]; show _ = ((c.toNat - 48 : Nat) : Int); omega
  · rw [if_neg h1, if_neg (show ¬ ((48 : Int) ≤ ((c.toNat : Nat) : Int) ∧ ((c.toNat : Nat) : Int) ≤ 57) by omega)]
    by_cases h2 : 97 ≤ c.toNat ∧ c.toNat ≤ 102
    · rw [if_pos h2, if_pos (show (97 : Int) ≤ ((c.toNat : Nat) : Int) ∧ ((c.toNat : Nat) : Int) ≤ 102 by omega)]
      show _ = digI (if b ≤ c.toNat - 87 then none else some _)
      split
      · rw [if_pos (by omega)]; rfl
      · rw [if_neg (by omega)]; show _ = ((c.toNat - 87 : Nat) : Int); omega
    · rw [if_neg h2, if_neg (show ¬ ((97 : Int) ≤ ((c.toNat : Nat) : Int) ∧ ((c.toNat : Nat) : Int) ≤ 102) by omega)]
      by_cases h3 : 65 ≤ c.toNat ∧ c.toNat ≤ 70
      · rw [if_pos h3, if_pos (show (65 : Int) ≤ ((c.toNat : Nat) : Int) ∧ ((c.toNat : Nat) : Int) ≤ 70 by omega)]
        show _ = digI (if b ≤ c.toNat - 55 then none else some _)
        split
        · rw [if_pos (by omega)]; rfl
        · rw [if_neg (by omega)]; show _ = ((c.toNat - 55 : Nat) : Int); omega
      · rw [if_neg h3, if_neg (show ¬ ((65 : Int) ≤ ((c.toNat : Nat) : Int) ∧ ((c.toNat : Nat) : Int) ≤ 70) by omega)]
        show (if (b : Int) ≤ -1 then _ else _) = _
        rw [if_neg (by omega)]
        rfl
set_option maxHeartbeats 2000000 in
set_option maxRecDepth 100000 in
theorem digit_any (c : UInt8) (b : Nat) (h0 : 0 < b) (hb : b ≤ 16) (w : World) : Calls Tryz.prog 86 #[u8v c, .int .i64 ((b : Nat) : Int)] w fun e w' => e = .returned (.int .i64 (digI (digR c b))) ∧ w' = w := by
  have hl := c.toNat_lt
  have hE := digE_eq c b h0
  unfold u8v
  obtain ⟨n, hn⟩ : ∃ n, n = c.toNat := ⟨_, rfl⟩
  rw [← hn] at hE hl ⊢
  obtain ⟨E, hEE⟩ : ∃ E, E = digI (digR c b) := ⟨_, rfl⟩
  rw [← hEE] at hE ⊢
  have HE := Lib.hid hE
  clear hE hEE hn
  go_enter Tryz.func86, Tryz.ntmps86
  go_wp2_with fail
  all_goals go_ret
  all_goals refine ⟨congrArg (fun b => Ending.returned (Value.int .i64 b)) ?_, rfl⟩
  all_goals rw [← HE.out]
  all_goals unfold digE
  all_goals dsimp only
  all_goals (repeat' split)
  all_goals omega

theorem digR_lt {c : UInt8} {b d : Nat} (h : digR c b = some d) : d < b := by
  unfold digR at h
  dsimp only at h
  generalize (if digB c = true then some (c.toNat - 48) else if (decide (97 ≤ c.toNat) && decide (c.toNat ≤ 102)) = true then some (c.toNat - 87) else if (decide (65 ≤ c.toNat) && decide (c.toNat ≤ 70)) = true then some (c.toNat - 55) else none) = o at h
  cases o with
  | none => cases h
  | some x =>
    have h : (if b ≤ x then none else some x) = some d := h
    split at h
    · cases h
    · injection h with h; omega
theorem num_stop {b m : Nat} {s : Bs} {k n : Nat} (h : m ≤ k ∨ s.length ≤ k ∨ digR (s.getD k 0) b = none) : numGo b (m - k) (s.drop k) n k = (n, k) := by
  by_cases h1 : m ≤ k
  · rw [Nat.sub_eq_zero_of_le h1]; unfold numGo; rfl
  · obtain ⟨q, hq⟩ : ∃ q, m - k = q + 1 := ⟨m - k - 1, by omega⟩
    rw [hq]
    by_cases h2 : s.length ≤ k
    · rw [List.drop_of_length_le h2]; unfold numGo; rfl
    · have h3 : digR (s.getD k 0) b = none := by rcases h with h | h | h; exact absurd h h1; exact absurd h h2; exact h
      rw [List.drop_eq_getElem_cons (by omega : k < s.length)]
      unfold numGo
      have e : s[k] = s.getD k 0 := by simp [show k < s.length by omega]
      rw [e, h3]
theorem num_go {b m : Nat} {s : Bs} {k n d : Nat} (h1 : k < m) (h2 : k < s.length) (h : digR (s.getD k 0) b = some d) : numGo b (m - k) (s.drop k) n k = numGo b (m - (k + 1)) (s.drop (k + 1)) (b * n + d) (k + 1) := by
  have hq : m - k = (m - (k + 1)) + 1 := by omega
  rw [hq, List.drop_eq_getElem_cons h2]
  conv => lhs; unfold numGo
  have e : s[k] = s.getD k 0 := by simp [h2]
  rw [e, h]
theorem num_lt {b k n d : Nat} (h : n < b ^ k) (hd : d < b) : b * n + d < b ^ (k + 1) := by
  have : b * n + b ≤ b * b ^ k := by
    rw [← Nat.mul_succ]
    exact Nat.mul_le_mul_left _ h
  rw [Nat.pow_succ, Nat.mul_comm (b ^ k)]
  omega
theorem num_cap {b m k n : Nat} (hm : b = 10 ∧ m = 5 ∨ b = 16 ∧ m = 2) (hk : k ≤ m) (h : n < b ^ k) : n < 100000 := by
  have h0 : 0 < b := by omega
  have := Nat.pow_le_pow_right h0 hk
  rcases hm with ⟨rfl, rfl⟩ | ⟨rfl, rfl⟩ <;> omega
set_option maxHeartbeats 8000000 in
set_option maxRecDepth 100000 in
theorem number_any (s : Bs) (b m : Nat) (hm : b = 10 ∧ m = 5 ∨ b = 16 ∧ m = 2) (w : World) (hl : s.length ≤ 1000000) :
    Calls Tryz.prog 50 #[.string (bs s), .int .i64 ((b : Nat) : Int), .int .i64 ((m : Nat) : Int)] w fun e w' => e = .returned (.tuple #[.int .i64 (((numR b m s).1 : Nat) : Int), .int .i64 (((numR b m s).2 : Nat) : Int)]) ∧ Below w.heap.size w w' := by
  have hz : (bs s).size = s.length := bs_size s
  have HX := Lib.hid (fun (i : Nat) (h : i < s.length) (w : World) => str_byte s i h w)
  have HD := Lib.hid (fun (c : UInt8) (w : World) => digit_any c b (by omega) (by omega) w)
  have HM := Lib.hid hm
  have hb16 : b ≤ 16 := by omega
  have hm5 : m ≤ 5 := by omega
  obtain ⟨R, hR⟩ : ∃ R, R = numR b m s := ⟨_, rfl⟩
  rw [← hR]
  obtain ⟨S, hS⟩ : ∃ S, S = bs s := ⟨_, rfl⟩
  rw [← hS] at hz ⊢
  simp only [← hS] at HX
  obtain ⟨n, hn⟩ : ∃ n, n = s.length := ⟨_, rfl⟩
  rw [← hn] at hz hl
  have HR := Lib.hid hR; have Hn := Lib.hid hn
  clear hS hn hR hm
  go_enter Tryz.func50, Tryz.ntmps50
  go_wp2_with fail
  go_loopw [8, 9] (fun v i wr => ∃ (x j : Nat), v = .int .i64 (x : Int) ∧ i = .int .i64 (j : Int) ∧ j ≤ n ∧ j ≤ m ∧ Hid (x < b ^ j) ∧ Hid (R = numGo b (m - j) (s.drop j) x j) ∧ Hid (Below w.heap.size w wr)) (fun _ i _ => n - (intOf i).toNat)
  case atStart => exact ⟨0, 0, rfl, rfl, Nat.zero_le _, Nat.zero_le _, Lib.hid (by simp), Lib.hid (by rw [HR.out]; rfl), Lib.hid (Below.refl _ _)⟩
  case round =>
    obtain ⟨x, j, rfl, rfl, hj, hjm, HXB, HG, HB⟩ := hrel
    by_cases hjn : j < n
    · have tj : decide ((j : Int) < (n : Int)) = true := by rw [decide_eq_true_eq]; omega
      by_cases hjm2 : j < m
      · have tm : decide ((j : Int) < (m : Int)) = true := by rw [decide_eq_true_eq]; omega
        have hjl : j < s.length := by rw [← Hn.out]; omega
        have hx := fun W => HX.out j hjl W
        have hx1 := Lib.hid hx
        obtain ⟨c, hc⟩ : ∃ c, c = s.getD j 0 := ⟨_, rfl⟩
        rw [← hc] at hx hx1
        have hd := HD.out c
        unfold u8v at hd
        cases ho : digR c b with
        | none =>
          rw [ho] at hd
          simp only [digI] at hd
          have hrr := HG.out
          rw [num_stop (.inr (.inr (by rw [← hc]; exact ho)))] at hrr
          have HRR := Lib.hid hrr
          have HDD := Lib.hid hd
          clear hd hrr ho hc hx1 hjl
          generalize ((c.toNat : Nat) : Int) = y at *
          go_wp2_with (go_at_call 86; refine (HDD.out _).mono ?_; rintro e w9 ⟨rfl, rfl⟩)
          go_ret2
          exact ⟨by rw [HRR.out]; rfl, HB.out⟩
        | some d =>
          rw [ho] at hd
          simp only [digI] at hd
          have hrr := HG.out
          rw [num_go hjm2 hjl (by rw [← hc]; exact ho)] at hrr
          have HRR := Lib.hid hrr
          have HDD := Lib.hid hd
          have hdb := digR_lt ho
          have hcap := num_cap HM.out hjm HXB.out
          have HXB2 := Lib.hid (num_lt HXB.out hdb)
          have hcap2 := num_cap HM.out (k := j + 1) (by omega) HXB2.out
          obtain ⟨p, hp⟩ : ∃ p, p = b * x := ⟨_, rfl⟩
          rw [← hp] at HXB2 hcap2 HRR
          have hpi : ((b : Nat) : Int) * ((x : Nat) : Int) = ((p : Nat) : Int) := by rw [hp]; simp
          clear hd hrr ho hc hx1 hjl hp
          generalize ((c.toNat : Nat) : Int) = y at *
          go_wp2_with (go_at_call 86; refine (HDD.out _).mono ?_; rintro e w9 ⟨rfl, rfl⟩)
          exact ⟨⟨p + d, j + 1, by go_num, by go_num, by omega, by omega, HXB2, HRR, HB⟩, by simp [intOf]; omega⟩
      · have tm : decide ((j : Int) < (m : Int)) = false := by rw [decide_eq_false_iff_not]; omega
        have hrr := HG.out
        rw [num_stop (.inl (by omega))] at hrr
        have HRR := Lib.hid hrr
        clear hrr
        go_wp2_with fail
        go_ret2
        exact ⟨by rw [HRR.out]; rfl, HB.out⟩
    · have tj : decide ((j : Int) < (n : Int)) = false := by rw [decide_eq_false_iff_not]; omega
      have hrr := HG.out
      rw [num_stop (.inr (.inl (by rw [← Hn.out]; omega)))] at hrr
      have HRR := Lib.hid hrr
      clear hrr
      go_wp2_with fail
      go_ret2
      exact ⟨by rw [HRR.out]; rfl, HB.out⟩
end Go.Proofs.YtcpkkaimingnlaaGreatDoor
