/-
  Texts of this seat, joined: Lnu, Lrq, Ldg, Log, Lsp, Lrd. Each says what it proves, ahead of itself.
-/
import Derived.Test.YtcpkkaimingnlaaGreatDoorMI
import Derived.Test.YtcpkkaimingnlaaGreatDoorMA
import Derived.Test.YtcpkkaimingnlaaGreatDoorME
import Derived.Test.YtcpkkaimingnlaaGreatDoorMG
set_option linter.unusedVariables false
set_option linter.unusedSimpArgs false
section
namespace Go.Proofs.YtcpkkaimingnlaaGreatDoor
open Go.RowKit

def digE (n b : Int) : Int :=
  let d := if 48 ≤ n ∧ n ≤ 57 then n - 48 else if 97 ≤ n ∧ n ≤ 102 then n - 87 else if 65 ≤ n ∧ n ≤ 70 then n - 55 else -1
  if b ≤ d then -1 else d
def digI (o : Option Nat) : Int := match o with | none => -1 | some d => (d : Int)
theorem digE_eq (c : UInt8) (b : Nat) (hb : 0 < b) : digE ((c.toNat : Nat) : Int) ((b : Nat) : Int) = digI (digR c b) := by
  unfold digE digR digB
  dsimp only
  simp only [Bool.and_eq_true, decide_eq_true_eq]
  by_cases h1 : 48 ≤ c.toNat ∧ c.toNat ≤ 57
  · rw [if_pos h1, if_pos (show (48 : Int) ≤ ((c.toNat : Nat) : Int) ∧ ((c.toNat : Nat) : Int) ≤ 57 by omega)]
    show _ = digI (if b ≤ c.toNat - 48 then none else some _)
    split
    · rw [if_pos (by omega)]; rfl
    · rw [if_neg (by omega)]; show _ = ((c.toNat - 48 : Nat) : Int); omega
  · rw [if_neg h1, if_neg (show ¬ ((48 : Int) ≤ ((c.toNat : Nat) : Int) ∧ ((c.toNat : Nat) : Int) ≤ 57) by omega)]
    by_cases h2 : 97 ≤ c.toNat ∧ c.toNat ≤ 102
    · rw [if_pos h2, if_pos (show (97 : Int) ≤ ((c.toNat : Nat) : Int) ∧ ((c.toNat : Nat) : Int) ≤ 102 by omega)]
      show _ = digI (if b ≤ c.toNat - 87 then none else some _)
      split
      · rw [if_pos (by omega)]; rfl
      · rw [if_neg (by omega)]; show _ = ((c.toNat - 87 : Nat) : Int); omega
    · rw [if_neg h2, if_neg (show ¬ ((97 : Int) ≤ ((c.toNat : Nat) : Int) ∧ ((c.toNat : Nat) : Int) ≤ 102) by omega)]
      by_cases h3 : 65 ≤ c.toNat ∧ c.toNat ≤ 70
      · rw [if_pos h3, if_pos (show (65 : Int) ≤ ((c.toNat : Nat) : Int) ∧ ((c.toNat : Nat) : Int) ≤ 70 by omega)]
        show _ = digI (if b ≤ c.toNat - 55 then none else some _)
        split
        · rw [if_pos (by omega)]; rfl
        · rw [if_neg (by omega)]; show _ = ((c.toNat - 55 : Nat) : Int); omega
      · rw [if_neg h3, if_neg (show ¬ ((65 : Int) ≤ ((c.toNat : Nat) : Int) ∧ ((c.toNat : Nat) : Int) ≤ 70) by omega)]
        show (if (b : Int) ≤ -1 then _ else _) = _
        rw [if_neg (by omega)]
        rfl
set_option maxHeartbeats 2000000 in
set_option maxRecDepth 100000 in
theorem digit_any (c : UInt8) (b : Nat) (h0 : 0 < b) (hb : b ≤ 16) (w : World) : Calls Tryz.prog 86 #[u8v c, .int .i64 ((b : Nat) : Int)] w fun e w' => e = .returned (.int .i64 (digI (digR c b))) ∧ w' = w := by
  have hl := c.toNat_lt
  have hE := digE_eq c b h0
  unfold u8v
  obtain ⟨n, hn⟩ : ∃ n, n = c.toNat := ⟨_, rfl⟩
  rw [← hn] at hE hl ⊢
  obtain ⟨E, hEE⟩ : ∃ E, E = digI (digR c b) := ⟨_, rfl⟩
  rw [← hEE] at hE ⊢
  have HE := Lib.hid hE
  clear hE hEE hn
  go_enter Tryz.func86, Tryz.ntmps86
  go_wp2_with fail
  all_goals go_ret
  all_goals refine ⟨congrArg (fun b => Ending.returned (Value.int .i64 b)) ?_, rfl⟩
  all_goals rw [← HE.out]
  all_goals unfold digE
  all_goals dsimp only
  all_goals (repeat' split)
  all_goals omega

theorem digR_lt {c : UInt8} {b d : Nat} (h : digR c b = some d) : d < b := by
  unfold digR at h
  dsimp only at h
  generalize (if digB c = true then some (c.toNat - 48) else if (decide (97 ≤ c.toNat) && decide (c.toNat ≤ 102)) = true then some (c.toNat - 87) else if (decide (65 ≤ c.toNat) && decide (c.toNat ≤ 70)) = true then some (c.toNat - 55) else none) = o at h
  cases o with
  | none => cases h
  | some x =>
    have h : (if b ≤ x then none else some x) = some d := h
    split at h
    · cases h
    · injection h with h; omega
theorem num_stop {b m : Nat} {s : Bs} {k n : Nat} (h : m ≤ k ∨ s.length ≤ k ∨ digR (s.getD k 0) b = none) : numGo b (m - k) (s.drop k) n k = (n, k) := by
  by_cases h1 : m ≤ k
  · rw [Nat.sub_eq_zero_of_le h1]; unfold numGo; rfl
  · obtain ⟨q, hq⟩ : ∃ q, m - k = q + 1 := ⟨m - k - 1, by omega⟩
    rw [hq]
    by_cases h2 : s.length ≤ k
    · rw [List.drop_of_length_le h2]; unfold numGo; rfl
    · have h3 : digR (s.getD k 0) b = none := by rcases h with h | h | h; exact absurd h h1; exact absurd h h2; exact h
      rw [List.drop_eq_getElem_cons (by omega : k < s.length)]
      unfold numGo
      have e : s[k] = s.getD k 0 := by simp [show k < s.length by omega]
      rw [e, h3]
theorem num_go {b m : Nat} {s : Bs} {k n d : Nat} (h1 : k < m) (h2 : k < s.length) (h : digR (s.getD k 0) b = some d) : numGo b (m - k) (s.drop k) n k = numGo b (m - (k + 1)) (s.drop (k + 1)) (b * n + d) (k + 1) := by
  have hq : m - k = (m - (k + 1)) + 1 := by omega
  rw [hq, List.drop_eq_getElem_cons h2]
  conv => lhs; unfold numGo
  have e : s[k] = s.getD k 0 := by simp [h2]
  rw [e, h]
theorem num_lt {b k n d : Nat} (h : n < b ^ k) (hd : d < b) : b * n + d < b ^ (k + 1) := by
  have : b * n + b ≤ b * b ^ k := by
    rw [← Nat.mul_succ]
    exact Nat.mul_le_mul_left _ h
  rw [Nat.pow_succ, Nat.mul_comm (b ^ k)]
  omega
theorem num_cap {b m k n : Nat} (hm : b = 10 ∧ m = 5 ∨ b = 16 ∧ m = 2) (hk : k ≤ m) (h : n < b ^ k) : n < 100000 := by
  have h0 : 0 < b := by omega
  have := Nat.pow_le_pow_right h0 hk
  rcases hm with ⟨rfl, rfl⟩ | ⟨rfl, rfl⟩ <;> omega
set_option maxHeartbeats 8000000 in
set_option maxRecDepth 100000 in
theorem number_any (s : Bs) (b m : Nat) (hm : b = 10 ∧ m = 5 ∨ b = 16 ∧ m = 2) (w : World) (hl : s.length ≤ 1000000) :
    Calls Tryz.prog 50 #[.string (bs s), .int .i64 ((b : Nat) : Int), .int .i64 ((m : Nat) : Int)] w fun e w' => e = .returned (.tuple #[.int .i64 (((numR b m s).1 : Nat) : Int), .int .i64 (((numR b m s).2 : Nat) : Int)]) ∧ Below w.heap.size w w' := by
  have hz : (bs s).size = s.length := bs_size s
  have HX := Lib.hid (fun (i : Nat) (h : i < s.length) (w : World) => str_byte s i h w)
  have HD := Lib.hid (fun (c : UInt8) (w : World) => digit_any c b (by omega) (by omega) w)
  have HM := Lib.hid hm
  have hb16 : b ≤ 16 := by omega
  have hm5 : m ≤ 5 := by omega
  obtain ⟨R, hR⟩ : ∃ R, R = numR b m s := ⟨_, rfl⟩
  rw [← hR]
  obtain ⟨S, hS⟩ : ∃ S, S = bs s := ⟨_, rfl⟩
  rw [← hS] at hz ⊢
  simp only [← hS] at HX
  obtain ⟨n, hn⟩ : ∃ n, n = s.length := ⟨_, rfl⟩
  rw [← hn] at hz hl
  have HR := Lib.hid hR; have Hn := Lib.hid hn
  clear hS hn hR hm
  go_enter Tryz.func50, Tryz.ntmps50
  go_wp2_with fail
  go_loopw [8, 9] (fun v i wr => ∃ (x j : Nat), v = .int .i64 (x : Int) ∧ i = .int .i64 (j : Int) ∧ j ≤ n ∧ j ≤ m ∧ Hid (x < b ^ j) ∧ Hid (R = numGo b (m - j) (s.drop j) x j) ∧ Hid (Below w.heap.size w wr)) (fun _ i _ => n - (intOf i).toNat)
  case atStart => exact ⟨0, 0, rfl, rfl, Nat.zero_le _, Nat.zero_le _, Lib.hid (by simp), Lib.hid (by rw [HR.out]; rfl), Lib.hid (Below.refl _ _)⟩
  case round =>
    obtain ⟨x, j, rfl, rfl, hj, hjm, HXB, HG, HB⟩ := hrel
    by_cases hjn : j < n
    · have tj : decide ((j : Int) < (n : Int)) = true := by rw [decide_eq_true_eq]; omega
      by_cases hjm2 : j < m
      · have tm : decide ((j : Int) < (m : Int)) = true := by rw [decide_eq_true_eq]; omega
        have hjl : j < s.length := by rw [← Hn.out]; omega
        have hx := fun W => HX.out j hjl W
        have hx1 := Lib.hid hx
        obtain ⟨c, hc⟩ : ∃ c, c = s.getD j 0 := ⟨_, rfl⟩
        rw [← hc] at hx hx1
        have hd := HD.out c
        unfold u8v at hd
        cases ho : digR c b with
        | none =>
          rw [ho] at hd
          simp only [digI] at hd
          have hrr := HG.out
          rw [num_stop (.inr (.inr (by rw [← hc]; exact ho)))] at hrr
          have HRR := Lib.hid hrr
          have HDD := Lib.hid hd
          clear hd hrr ho hc hx1 hjl
          generalize ((c.toNat : Nat) : Int) = y at *
          go_wp2_with (go_at_call 86; refine (HDD.out _).mono ?_; rintro e w9 ⟨rfl, rfl⟩)
          go_ret2
          exact ⟨by rw [HRR.out]; rfl, HB.out⟩
        | some d =>
          rw [ho] at hd
          simp only [digI] at hd
          have hrr := HG.out
          rw [num_go hjm2 hjl (by rw [← hc]; exact ho)] at hrr
          have HRR := Lib.hid hrr
          have HDD := Lib.hid hd
          have hdb := digR_lt ho
          have hcap := num_cap HM.out hjm HXB.out
          have HXB2 := Lib.hid (num_lt HXB.out hdb)
          have hcap2 := num_cap HM.out (k := j + 1) (by omega) HXB2.out
          obtain ⟨p, hp⟩ : ∃ p, p = b * x := ⟨_, rfl⟩
          rw [← hp] at HXB2 hcap2 HRR
          have hpi : ((b : Nat) : Int) * ((x : Nat) : Int) = ((p : Nat) : Int) := by rw [hp]; simp
          clear hd hrr ho hc hx1 hjl hp
          generalize ((c.toNat : Nat) : Int) = y at *
          go_wp2_with (go_at_call 86; refine (HDD.out _).mono ?_; rintro e w9 ⟨rfl, rfl⟩)
          exact ⟨⟨p + d, j + 1, by go_num, by go_num, by omega, by omega, HXB2, HRR, HB⟩, by simp [intOf]; omega⟩
      · have tm : decide ((j : Int) < (m : Int)) = false := by rw [decide_eq_false_iff_not]; omega
        have hrr := HG.out
        rw [num_stop (.inl (by omega))] at hrr
        have HRR := Lib.hid hrr
        clear hrr
        go_wp2_with fail
        go_ret2
        exact ⟨by rw [HRR.out]; rfl, HB.out⟩
    · have tj : decide ((j : Int) < (n : Int)) = false := by rw [decide_eq_false_iff_not]; omega
      have hrr := HG.out
      rw [num_stop (.inr (.inl (by rw [← Hn.out]; omega)))] at hrr
      have HRR := Lib.hid hrr
      clear hrr
      go_wp2_with fail
      go_ret2
      exact ⟨by rw [HRR.out]; rfl, HB.out⟩
end Go.Proofs.YtcpkkaimingnlaaGreatDoor
end
section
namespace Go.Proofs.YtcpkkaimingnlaaGreatDoor

theorem out1 (c : UInt8) : out [c] = ne c := by
  funext x
  unfold out ne
  rw [Bool.eq_iff_iff]
  simp
theorem stop_le (ch s : Bs) : stop ch s ≤ s.length := (List.takeWhile_sublist _).length_le
theorem parseR_stop (s : Bs) (h : s.length ≤ 2048) : parseR s = if isHttp (small (s.take (stop [58] s))) = false ∨ s.length < stop [58] s + 3 ∨ (s.take (stop [58] s + 3)).drop (stop [58] s) ≠ [58, 47, 47] then none else hostR (s.take (stop [58] s)) (s.drop (stop [58] s + 3)) := by
  have e1 : s.takeWhile (ne 58) = s.take (stop [58] s) := by rw [take_stop, out1]
  have e2 : s.dropWhile (ne 58) = s.drop (stop [58] s) := by rw [drop_stop, out1]
  have e3 : (s.take (stop [58] s)).length = stop [58] s := by rw [List.length_take]; exact Nat.min_eq_left (stop_le _ _)
  unfold parseR
  rw [if_neg (by omega), e1, e2, e3, List.drop_drop, List.drop_take, show stop [58] s + 3 - stop [58] s = 3 by omega]
theorem hostR_stop (sch rest : Bs) : hostR sch rest = if (rest.take (stop [58, 47, 63, 35] rest)).all hostB = false then none else if stop [58, 47, 63, 35] rest < 1 ∨ 253 < stop [58, 47, 63, 35] rest then none else afterR sch (rest.take (stop [58, 47, 63, 35] rest)) (rest.drop (stop [58, 47, 63, 35] rest)) := by
  have e3 : (rest.take (stop [58, 47, 63, 35] rest)).length = stop [58, 47, 63, 35] rest := by rw [List.length_take]; exact Nat.min_eq_left (stop_le _ _)
  unfold hostR
  dsimp only
  rw [← take_stop, ← drop_stop, e3]
theorem numGo_bd (b : Nat) : ∀ (m : Nat) (s : Bs) (n k : Nat), (numGo b m s n k).2 ≤ k + s.length
  | 0, s, n, k => by unfold numGo; exact Nat.le_add_right _ _
  | m + 1, [], n, k => by unfold numGo; exact Nat.le_add_right _ _
  | m + 1, c :: r, n, k => by
    unfold numGo
    split
    · exact Nat.le_add_right _ _
    · have := numGo_bd b m r (b * n + ‹Nat›) (k + 1)
      rw [List.length_cons]
      omega
theorem numR_bd (b m : Nat) (s : Bs) : (numR b m s).2 ≤ s.length := by
  have := numGo_bd b m s 0 0
  unfold numR
  omega
theorem numGo_cap (b : Nat) : ∀ (m : Nat) (s : Bs) (n k : Nat), (numGo b m s n k).2 ≤ k + m
  | 0, s, n, k => by unfold numGo; exact Nat.le_add_right _ _
  | m + 1, [], n, k => by unfold numGo; exact Nat.le_add_right _ _
  | m + 1, c :: r, n, k => by
    unfold numGo
    split
    · exact Nat.le_add_right _ _
    · have := numGo_cap b m r (b * n + ‹Nat›) (k + 1)
      omega
theorem rightR_step (t : Bs) (j : Nat) (h : j < t.length) : rightR (t.drop j) = (decide (33 ≤ (t.getD j 0).toNat) && decide ((t.getD j 0).toNat ≤ 126) && !marksB.contains (t.getD j 0) && ((t.getD j 0) != 37 || !decide ((numR 16 2 (t.drop (j + 1))).2 < 2)) && rightR (t.drop (j + 1))) := by
  rw [List.drop_eq_getElem_cons h]
  have e : t.getD j 0 = t[j] := by simp [h]
  rw [e]
  rfl
theorem stop_one (ch : Bs) (c : UInt8) : stop ch [c] = if ch.contains c = true then 0 else 1 := by
  unfold stop
  unfold out List.takeWhile
  cases h : ch.contains c with
  | true => rfl
  | false => rfl
theorem stop_in (c : UInt8) (s : Bs) : decide (stop [c] s < s.length) = s.contains c := by
  unfold stop
  rw [out1]
  have h := tw_dw (ne c) s
  have h2 := tw_mem (p := ne c) s
  have h3 := dw_head (p := ne c) s
  cases hd : s.dropWhile (ne c) with
  | nil =>
    rw [hd, List.append_nil] at h
    rw [h, decide_eq_false (Nat.lt_irrefl _)]
    symm
    cases hc : s.contains c with
    | false => rfl
    | true =>
      rw [h] at h2
      have hm : c ∈ s := by simpa using hc
      exact absurd rfl (ne_true.1 (h2 c hm))
  | cons y r =>
    have hy := ne_false.1 (h3 y r hd)
    subst hy
    rw [hd] at h
    rw [decide_eq_true (by have hl := congrArg List.length h; rw [List.length_append, List.length_cons] at hl; omega)]
    symm
    have hm : y ∈ s := by rw [← h]; simp
    simpa using hm
/-- What follows the path. -/
def midR (v : Bs) : Bs × Bool × Bs :=
  match v with
  | 63 :: r => (r.take (stop [35] r), true, r.drop (stop [35] r))
  | v => ([], false, v)
theorem midR_no (v : Bs) (h : ∀ r, v ≠ 63 :: r) : midR v = ([], false, v) := by
  unfold midR
  split
  · rename_i r; exact absurd rfl (h r)
  · rfl
theorem tailR_mid (t : Bs) : tailR t = (t.take (stop [63, 35] t), (midR (t.drop (stop [63, 35] t))).1, (midR (t.drop (stop [63, 35] t))).2.2.drop 1, (midR (t.drop (stop [63, 35] t))).2.1, !(midR (t.drop (stop [63, 35] t))).2.2.isEmpty) := by
  unfold tailR
  dsimp only
  rw [← take_stop, ← drop_stop]
  generalize t.take (stop [63, 35] t) = p
  generalize t.drop (stop [63, 35] t) = v
  cases v with
  | nil => rfl
  | cons c r =>
    dsimp only
    by_cases h : c = 63
    · subst h
      rw [if_pos rfl]
      have e : midR (63 :: r) = (r.take (stop [35] r), true, r.drop (stop [35] r)) := rfl
      rw [e, take_stop, drop_stop, out1]
      cases r.dropWhile (ne 35) <;> rfl
    · rw [if_neg h, midR_no (c :: r) (fun r' e => h (by injection e))]
      rfl
theorem endR_bad {sch host : Bs} {port : Nat} {c : UInt8} {r : Bs} (h1 : c ≠ 47) (h2 : c ≠ 63) (h3 : c ≠ 35) : endR sch host port (c :: r) = none := by
  unfold endR
  dsimp only
  rw [if_pos ⟨h1, h2, h3⟩]
theorem endR_wrong {sch host : Bs} {port : Nat} {t : Bs} (h : rightR t = false) : endR sch host port t = none := by
  cases t with
  | nil => cases h
  | cons c r =>
    unfold endR
    dsimp only
    by_cases h1 : c ≠ 47 ∧ c ≠ 63 ∧ c ≠ 35
    · rw [if_pos h1]
    · rw [if_neg h1, if_pos h]
theorem endR_ok {sch host : Bs} {port : Nat} {t : Bs} (ht : ∀ c r, t = c :: r → c = 47 ∨ c = 63 ∨ c = 35) (hr : rightR t = true) :
    endR sch host port t = if ((midR (t.drop (stop [63, 35] t))).2.2.drop 1).contains 35 = true then none else some ⟨sch, host, port, t.take (stop [63, 35] t), (midR (t.drop (stop [63, 35] t))).1, (midR (t.drop (stop [63, 35] t))).2.2.drop 1, (midR (t.drop (stop [63, 35] t))).2.1, !(midR (t.drop (stop [63, 35] t))).2.2.isEmpty⟩ := by
  cases t with
  | nil => rfl
  | cons c r =>
    have e := tailR_mid (c :: r)
    have hc := ht c r rfl
    unfold endR
    dsimp only
    rw [if_neg (by rintro ⟨h1, h2, h3⟩; rcases hc with h | h | h <;> contradiction), if_neg (by rw [hr]; decide), e]
theorem midR_yes (r : Bs) : midR (63 :: r) = (((63 :: r : Bs).take (stop [35] (63 :: r))).drop 1, true, (63 :: r : Bs).drop (stop [35] (63 :: r))) ∧ 1 ≤ stop [35] (63 :: r) := by
  have e : stop [35] (63 :: r) = stop [35] r + 1 := by
    unfold stop
    rw [List.takeWhile_cons, if_pos (by decide), List.length_cons]
  rw [e]
  exact ⟨rfl, Nat.le_add_left _ _⟩
end Go.Proofs.YtcpkkaimingnlaaGreatDoor
end
section
namespace Go.Proofs.YtcpkkaimingnlaaGreatDoor
open Go.RowKit

theorem conv_byte (w : World) (x : Int) (c : UInt8) (hx : x = ((c.toNat : Nat) : Int)) : (convert 46 9 (.slice (some ⟨w.heap.size, 0, none⟩) 1 1)).run Tryz.prog (w.alloc (.cells #[.int .u8 x] 5)) = .ok (.string (bs [c])) (w.alloc (.cells #[.int .u8 x] 5)) := by
  subst hx
  refine run_convert_bytes_back _ 46 9 5 ⟨w.heap.size, 0, none⟩ 1 [c] Tryz.underlying46 Tryz.underlying5 Tryz.underlying9 ?_
  intro j hj
  have hj0 : j = 0 := by simpa using hj
  subst hj0
  rw [add_eq, cell_of_row _ w.heap.size (0 + 0) #[.int .u8 ((c.toNat : Nat) : Int)] 5 (0, 0) (heap_alloc_new w _)]
  rfl
set_option maxHeartbeats 2000000 in
set_option maxRecDepth 100000 in
theorem digits_any : ∀ (n : Nat), n ≤ 65535 → ∀ (w : World), Calls Tryz.prog 90 #[.int .i64 ((n : Nat) : Int)] w fun e w' => e = .returned (.string (bs (decT n))) ∧ Below w.heap.size w w' := by
  intro n
  induction n using Nat.strongRecOn with
  | _ n ih =>
    intro hn w
    have hA := Lib.hid (fun x : Obj => below_one w x)
    by_cases h : n < 10
    · have t1 : decide ((n : Int) < 10) = true := by rw [decide_eq_true_eq]; omega
      have e : decT n = [UInt8.ofNat (48 + n)] := by unfold decT; rw [dif_pos h]
      have hcv := conv_byte w (48 + (n : Int)) (UInt8.ofNat (48 + n)) (by rw [ofn48 n h]; simp)
      rw [e]
      generalize bs [UInt8.ofNat (48 + n)] = S at *
      clear ih e
      go_enter Tryz.func90, Tryz.ntmps90
      go_wp2_with fail
      go_ret
      exact ⟨rfl, hA.out _⟩
    · have t1 : decide ((n : Int) < 10) = false := by rw [decide_eq_false_iff_not]; omega
      have e : decT n = decT (n / 10) ++ decT (n % 10) := by
        conv => lhs; unfold decT
        rw [dif_neg h]
        congr 1
        unfold decT
        rw [dif_pos (Nat.mod_lt _ (by omega))]
      have h1 := Lib.hid (fun W => ih (n / 10) (by omega) (by omega) W)
      have h2 := Lib.hid (fun W => ih (n % 10) (by omega) (by omega) W)
      have z1 : (bs (decT (n / 10))).size ≤ 6 := by rw [bs_size]; exact decT_len _ (by omega)
      have z2 : (bs (decT (n % 10))).size ≤ 6 := by rw [bs_size]; exact decT_len _ (by omega)
      obtain ⟨q, hq⟩ : ∃ q, q = n / 10 := ⟨_, rfl⟩
      obtain ⟨r, hr⟩ : ∃ r, r = n % 10 := ⟨_, rfl⟩
      have e1 : IntKind.i64.wrap ((n : Int).tdiv 10) = (q : Int) := by rw [hq, IntWalk.i64_in _ (by rw [Int.tdiv_eq_ediv_of_nonneg (by omega)]; omega), Int.tdiv_eq_ediv_of_nonneg (by omega)]; omega
      have e2 : IntKind.i64.wrap ((n : Int).tmod 10) = (r : Int) := by rw [hr, IntWalk.i64_in _ (by rw [Int.tmod_eq_emod_of_nonneg (by omega)]; omega), Int.tmod_eq_emod_of_nonneg (by omega)]; omega
      have e3 : (n : Int).tdiv 10 = (q : Int) := by rw [hq, Int.tdiv_eq_ediv_of_nonneg (by omega)]; omega
      have e4 : (n : Int).tmod 10 = (r : Int) := by rw [hr, Int.tmod_eq_emod_of_nonneg (by omega)]; omega
      have e5 : (n : Int) / 10 = (q : Int) := by omega
      have e6 : (n : Int) % 10 = (r : Int) := by omega
      rw [e, ← bs_cat]
      rw [← hq] at h1 z1 ⊢
      rw [← hr] at h2 z2 ⊢
      generalize bs (decT q) = S1 at *
      generalize bs (decT r) = S2 at *
      clear ih e hq hr
      go_enter Tryz.func90, Tryz.ntmps90
      go_wp2_with (first | (go_at_call 90; refine (h1.out _).mono ?_; rintro e w1 ⟨rfl, hb1⟩; have HB1 := Lib.hid hb1; clear hb1 h1) | (go_at_call 90; refine (h2.out _).mono ?_; rintro e w2 ⟨rfl, hb2⟩; have HB2 := Lib.hid hb2; clear hb2))
      go_ret
      exact ⟨rfl, below_then HB1.out HB2.out⟩
end Go.Proofs.YtcpkkaimingnlaaGreatDoor
end
section
namespace Go.Proofs.YtcpkkaimingnlaaGreatDoor
open Go.RowKit

set_option maxHeartbeats 4000000 in
set_option maxRecDepth 100000 in
theorem rorigin_any (l : Link) (w : World) (hl : sL l) :
    Calls Tryz.prog 57 #[lnk l] w fun e w' => e = .returned (.string (bs (originL l))) ∧ Below w.heap.size w w' := by
  have hc := Lib.hid (fun W (_ : Below w.heap.size w W) => digits_any l.port hl.2.2 W)
  have z1 : (bs l.scheme).size ≤ 1000000 := by rw [bs_size]; exact hl.1
  have z2 : (bs l.host).size ≤ 1000000 := by rw [bs_size]; exact hl.2.1
  have z3 : (bs (decT l.port)).size ≤ 6 := by rw [bs_size]; exact decT_len _ hl.2.2
  by_cases hp : l.port = 0
  · have e1 : (((l.port : Nat) : Int) == 0) = true := by rw [hp]; rfl
    have eO : originL l = (l.scheme ++ [58, 47, 47]) ++ l.host := by unfold originL portT; rw [if_pos hp, List.append_nil]
    rw [eO, ← bs_cat, ← bs_cat]
    unfold lnk
    generalize bs l.scheme = S1 at *
    generalize bs l.host = S2 at *
    clear eO hl z3 hp hc
    generalize ((l.port : Nat) : Int) = y at *
    go_enter Tryz.func57, Tryz.ntmps57
    have hA := Lib.hid (fun x : Obj => below_one w x)
    go_wp2
    go_ret
    exact ⟨rfl, hA.out _⟩
  have e1 : (((l.port : Nat) : Int) == 0) = false := by rw [beq_eq_false_iff_ne]; omega
  have eO : originL l = (l.scheme ++ [58, 47, 47]) ++ l.host ++ [58] ++ decT l.port := by unfold originL portT; rw [if_neg hp]; simp
  rw [eO, ← bs_cat, ← bs_cat, ← bs_cat, ← bs_cat]
  unfold lnk
  generalize bs (decT l.port) = SP at *
  generalize bs l.scheme = S1 at *
  generalize bs l.host = S2 at *
  generalize bs l.path = S3 at *
  generalize bs l.query = S4 at *
  generalize bs l.frag = S5 at *
  generalize l.hasQ = bq at *
  generalize l.hasF = bf at *
  clear eO hl hp
  generalize ((l.port : Nat) : Int) = y at *
  have hA := Lib.hid (fun x : Obj => below_one w x)
  have hC : ∀ (j : Nat) (v : Value) (cs : Array Value), cs[j]? = some v → (w.alloc (.cells cs 24)).cell? ⟨w.heap.size, j, none⟩ = some v := by
    intro j v cs h
    rw [cell_of_row _ w.heap.size j cs 24 (0, 0) (heap_alloc_new w _)]
    exact h
  have HC := Lib.hid hC
  clear hC
  go_enter Tryz.func57, Tryz.ntmps57
  go_wp2_with fail
  have c0 := HC.out 0 (.string S1) #[.string S1, .string S2, .int .i64 y, .string S3, .string S4, .string S5, .bool bq, .bool bf] rfl
  have c1 := HC.out 1 (.string S2) #[.string S1, .string S2, .int .i64 y, .string S3, .string S4, .string S5, .bool bq, .bool bf] rfl
  have c2 := HC.out 2 (.int .i64 y) #[.string S1, .string S2, .int .i64 y, .string S3, .string S4, .string S5, .bool bq, .bool bf] rfl
  have c3 := HC.out 3 (.string S3) #[.string S1, .string S2, .int .i64 y, .string S3, .string S4, .string S5, .bool bq, .bool bf] rfl
  have c4 := HC.out 4 (.string S4) #[.string S1, .string S2, .int .i64 y, .string S3, .string S4, .string S5, .bool bq, .bool bf] rfl
  have c5 := HC.out 5 (.string S5) #[.string S1, .string S2, .int .i64 y, .string S3, .string S4, .string S5, .bool bq, .bool bf] rfl
  have c6 := HC.out 6 (.bool bq) #[.string S1, .string S2, .int .i64 y, .string S3, .string S4, .string S5, .bool bq, .bool bf] rfl
  have c7 := HC.out 7 (.bool bf) #[.string S1, .string S2, .int .i64 y, .string S3, .string S4, .string S5, .bool bq, .bool bf] rfl
  have hb1 : Below w.heap.size w (w.alloc (.cells #[.string S1, .string S2, .int .i64 y, .string S3, .string S4, .string S5, .bool bq, .bool bf] 24)) := hA.out _
  have hs1 : (w.alloc (.cells #[.string S1, .string S2, .int .i64 y, .string S3, .string S4, .string S5, .bool bq, .bool bf] 24)).heap.size = w.heap.size + 1 := by show (w.heap.push _).size = _; rw [Array.size_push]
  clear HC hA
  generalize w.alloc (.cells #[.string S1, .string S2, .int .i64 y, .string S3, .string S4, .string S5, .bool bq, .bool bf] 24) = W1 at *
  generalize hg : w.heap.size = g at *
  have HS := Lib.hid hs1
  have HB1 := Lib.hid hb1
  clear hs1 hb1
  have hBd : Below W1.heap.size W1 W1.drew := (Below.refl _ W1).drew
  have za : ¬ 9223372036854775807 < S1.size + 3 := by omega
  have zb : ¬ 9223372036854775807 < S1.size + 3 + S2.size := by omega
  have zc : ¬ 9223372036854775807 < S1.size + 3 + S2.size + 1 := by omega
  have zd : ¬ 9223372036854775807 < S1.size + 3 + S2.size + 1 + SP.size := by omega
  have ze : (S1 ++ ⟨#[58, 47, 47]⟩ : ByteArray).size = S1.size + 3 := by rw [ByteArray.size_append]; rfl
  have zf : (S1 ++ ⟨#[58, 47, 47]⟩ ++ S2 : ByteArray).size = S1.size + 3 + S2.size := by rw [ByteArray.size_append, ze]
  have zg : (S1 ++ ⟨#[58, 47, 47]⟩ ++ S2 ++ ⟨#[58]⟩ : ByteArray).size = S1.size + 3 + S2.size + 1 := by rw [ByteArray.size_append, zf]; rfl
  go_region_held3 (fun w' => Below W1.heap.size W1 w' ∧ w'.cell? ⟨g, 0, none⟩ = some (.string S1) ∧ w'.cell? ⟨g, 1, none⟩ = some (.string S2) ∧ w'.cell? ⟨g, 2, none⟩ = some (.int .i64 y) ∧ w'.cell? ⟨g, 3, none⟩ = some (.string S3) ∧ w'.cell? ⟨g, 4, none⟩ = some (.string S4) ∧ w'.cell? ⟨g, 5, none⟩ = some (.string S5) ∧ w'.cell? ⟨g, 6, none⟩ = some (.bool bq) ∧ w'.cell? ⟨g, 7, none⟩ = some (.bool bf)) (go_keep) ((go_at_call 90; refine (hc.out _ ?_).mono ?_; (focus (refine HB1.out.trans (Below.mono (by assumption) ?_); (have := HS.out; omega))); rintro e w5 ⟨rfl, hb5⟩; have hbk := below_then' (by assumption) hb5; have k0 := cell_stays HS.out hbk c0; have k1 := cell_stays HS.out hbk c1; have k2 := cell_stays HS.out hbk c2; have k3 := cell_stays HS.out hbk c3; have k4 := cell_stays HS.out hbk c4; have k5 := cell_stays HS.out hbk c5; have k6 := cell_stays HS.out hbk c6; have k7 := cell_stays HS.out hbk c7; clear hb5))
  all_goals have hW := HB1.out.trans (hbk.mono (by have := HS.out; omega))
  all_goals clear hBd hbk
  all_goals go_wp2_with fail
  all_goals go_ret
  all_goals exact ⟨rfl, by rw [hg]; exact hW⟩
end Go.Proofs.YtcpkkaimingnlaaGreatDoor
end
section
namespace Go.Proofs.YtcpkkaimingnlaaGreatDoor
open Go.RowKit

theorem seg_app (s : Bs) (at' j : Nat) (h1 : at' ≤ j) (h2 : j ≤ s.length) : s.drop at' = (s.take j).drop at' ++ s.drop j := by
  have h : s.drop at' = (s.take j ++ s.drop j).drop at' := by rw [List.take_append_drop]
  rw [h, List.drop_append_of_le_length (by rw [List.length_take]; omega)]
/-- Where the loop stands. -/
def SplitAt (P : List Bs) (c : UInt8) (s : Bs) (j at' : Nat) (O : List Bs) : Prop :=
  (j ≤ s.length → P = O ++ splitC c (s.drop at') ∧ ∀ x ∈ (s.take j).drop at', x ≠ c) ∧ (s.length < j → P = O)
theorem split_step_no {P O : List Bs} {c : UInt8} {s : Bs} {j at' : Nat} (h : SplitAt P c s j at' O) (hj : j < s.length) (ha : at' ≤ j) (hc : s.getD j 0 ≠ c) : SplitAt P c s (j + 1) at' O := by
  refine ⟨fun _ => ⟨(h.1 (by omega)).1, fun x hx => ?_⟩, fun h2 => by omega⟩
  rw [List.take_succ_eq_append_getElem hj, List.drop_append_of_le_length (by rw [List.length_take]; omega)] at hx
  rcases List.mem_append.1 hx with hx | hx
  · exact (h.1 (by omega)).2 x hx
  · rw [List.mem_singleton.1 hx]
    simpa [hj] using hc
theorem split_step_hit {P O : List Bs} {c : UInt8} {s : Bs} {j at' : Nat} (h : SplitAt P c s j at' O) (hj : j < s.length) (ha : at' ≤ j) (hc : s.getD j 0 = c) : SplitAt P c s (j + 1) (j + 1) (O ++ [(s.take j).drop at']) := by
  obtain ⟨h1, h2⟩ := h.1 (by omega)
  refine ⟨fun _ => ⟨?_, fun x hx => ?_⟩, fun h2 => by omega⟩
  · rw [h1, seg_app s at' j ha (by omega)]
    have hd : s.drop j = c :: s.drop (j + 1) := by
      rw [List.drop_eq_getElem_cons hj]
      congr 1
      simpa [hj] using hc
    rw [hd, split_app c _ _ h2]
    simp
  · rw [List.drop_of_length_le (by rw [List.length_take]; omega)] at hx
    cases hx
theorem split_step_end {P O : List Bs} {c : UInt8} {s : Bs} {at' : Nat} (h : SplitAt P c s s.length at' O) (a2 : Nat) : SplitAt P c s (s.length + 1) a2 (O ++ [(s.take s.length).drop at']) := by
  obtain ⟨h1, h2⟩ := h.1 (Nat.le_refl _)
  refine ⟨fun h => by omega, fun _ => ?_⟩
  rw [List.take_length] at h2 ⊢
  rw [h1, split_one c _ h2]
/-- A row of texts of the call's own comes back. -/
def RowPost (w : World) (l : List Bs) (e : Ending) (w' : World) : Prop := ∃ v, e = .returned v ∧ SOwn w' w.heap.size v l ∧ Below w.heap.size w w'
set_option maxHeartbeats 8000000 in
set_option maxRecDepth 100000 in
theorem rsplit_any (s : Bs) (c : UInt8) (w : World) (hl : s.length ≤ 4000000) :
    Calls Tryz.prog 60 #[.string (bs s), .int .u8 ((c.toNat : Nat) : Int)] w (RowPost w (splitC c s)) := by
  have hz : (bs s).size = s.length := bs_size s
  have HX := Lib.hid (fun (i : Nat) (h : i < s.length) (w : World) => str_byte s i h w)
  have HC := Lib.hid (fun (a b : Nat) (h : a ≤ b) (hb : b ≤ s.length) (w : World) => str_cut s a b h hb w)
  obtain ⟨P, hP⟩ : ∃ P, P = splitC c s := ⟨_, rfl⟩
  rw [← hP]
  have h00 : SplitAt P c s 0 0 [] := ⟨fun _ => ⟨hP, fun x hx => by cases hx⟩, fun h => by omega⟩
  obtain ⟨S, hS⟩ : ∃ S, S = bs s := ⟨_, rfl⟩
  rw [← hS] at hz ⊢
  simp only [← hS] at HX HC
  obtain ⟨n, hn⟩ : ∃ n, n = s.length := ⟨_, rfl⟩
  rw [← hn] at hz hl
  have Hn := Lib.hid hn; have H00 := Lib.hid h00
  clear hS hn hP h00
  go_enter Tryz.func60, Tryz.ntmps60
  go_wp2_with fail
  go_loopw [5, 6, 7] (fun v a i wr => ∃ (j at' : Nat) (O : List Bs), i = .int .i64 (j : Int) ∧ a = .int .i64 (at' : Int) ∧ j ≤ n + 1 ∧ at' ≤ j ∧ O.length ≤ j ∧ Hid (SplitAt P c s j at' O) ∧ Hid (SOwn wr w.heap.size v O) ∧ Hid (Below w.heap.size w wr)) (fun _ _ i _ => n + 1 - (intOf i).toNat)
  case atStart => exact ⟨0, 0, [], rfl, rfl, Nat.zero_le _, Nat.le_refl _, Nat.le_refl _, H00, Lib.hid SOwn.nil, Lib.hid (Below.refl _ _)⟩
  case round =>
    obtain ⟨j, at', O, rfl, rfl, hj, hat, hO, HS, HO, HB⟩ := hrel
    have hBs := HB.out.size
    obtain ⟨A, cp, hv, hc, hcm, hAn⟩ := HO.out.form
    subst hv
    by_cases hjn : j ≤ n
    · have tj : decide ((j : Int) ≤ (n : Int)) = true := by rw [decide_eq_true_eq]; omega
      by_cases hje : j = n
      · have te : ((j : Int) == (n : Int)) = true := by rw [beq_iff_eq]; omega
        have hct := fun W => HC.out at' j hat (by rw [← Hn.out]; exact hjn) W
        have hst := split_step_end (by have := HS.out; rwa [show j = s.length by rw [hje]; exact Hn.out] at this) (j + 1)
        rw [← Hn.out, ← hje] at hst
        have HST := Lib.hid hst
        generalize (s.take j).drop at' = x at *
        have HJE := Lib.hid hje
        clear hst hje
        go_wp2_with (at_builtin; refine wpList_pushS rfl (.tmp 25) (.tmp 30) rfl w.heap.size hBs O _ (by rfl) HO.out x (by rfl) (by omega) ?_; intro A2 c2 w2 ho2 hb2; have HO2 := Lib.hid ho2; have HB2 := Lib.hid (HB.out.trans hb2); clear ho2 hb2)
        exact ⟨⟨j + 1, j + 1, O ++ [x], by go_num, by go_num, by have := HJE.out; omega, Nat.le_refl _, by rw [List.length_append]; exact Nat.succ_le_succ hO, HST, HO2, HB2⟩, by simp [intOf]; omega⟩
      · have te : ((j : Int) == (n : Int)) = false := by rw [beq_eq_false_iff_ne]; omega
        have hjl : j < s.length := by rw [← Hn.out]; omega
        have hx := fun W => HX.out j hjl W
        by_cases hcc : s.getD j 0 = c
        · have hct := fun W => HC.out at' j hat (by omega) W
          have HST := Lib.hid (split_step_hit HS.out hjl hat hcc)
          generalize (s.take j).drop at' = x at *
          rw [hcc] at hx
          clear hcc hjl
          generalize ((c.toNat : Nat) : Int) = y at *
          go_wp2_with (at_builtin; refine wpList_pushS rfl (.tmp 25) (.tmp 30) rfl w.heap.size hBs O _ (by rfl) HO.out x (by rfl) (by omega) ?_; intro A2 c2 w2 ho2 hb2; have HO2 := Lib.hid ho2; have HB2 := Lib.hid (HB.out.trans hb2); clear ho2 hb2)
          exact ⟨⟨j + 1, j + 1, O ++ [x], by go_num, by go_num, by omega, Nat.le_refl _, by rw [List.length_append]; exact Nat.succ_le_succ hO, HST, HO2, HB2⟩, by simp [intOf]; omega⟩
        · have HST := Lib.hid (split_step_no HS.out hjl hat hcc)
          have tc : ((((s.getD j 0).toNat : Nat) : Int) == ((c.toNat : Nat) : Int)) = false := by
            rw [beq_eq_false_iff_ne]
            intro h
            apply hcc
            rw [← UInt8.toNat_inj]
            omega
          generalize (((s.getD j 0).toNat : Nat) : Int) = y1 at *
          generalize ((c.toNat : Nat) : Int) = y at *
          clear hcc hjl
          go_wp2_with fail
          exact ⟨⟨j + 1, at', O, by go_num, rfl, by omega, by omega, by omega, HST, HO, HB⟩, by simp [intOf]; omega⟩
    · have tj : decide ((j : Int) ≤ (n : Int)) = false := by rw [decide_eq_false_iff_not]; omega
      have hPO : P = O := HS.out.2 (by rw [← Hn.out]; omega)
      subst hPO
      go_wp2_with fail
      go_ret
      exact ⟨_, rfl, HO.out, HB.out⟩
end Go.Proofs.YtcpkkaimingnlaaGreatDoor
end
section
namespace Go.Proofs.YtcpkkaimingnlaaGreatDoor
open Go.RowKit

/-- 'append(out, l...)', both rows of texts. -/
theorem wpList_appendS {w : World} {ops : Array Oper} {rest : List Oper} {o : Oper} {a : Act} {Q : Exit → Act → World → Prop} (hgd : o.guard = none) (s x : Operand)
    (ho : o.op = .call { callee := .builtin .append, args := #[s, x], argTypes := #[38, 38] })
    (B : Nat) (hB : B ≤ w.heap.size) (out l2 : List Bs) (v : Value) (hs : a.eval s = v) (hv : SOwn w B v out) (B2 : Nat) (v2 : Value) (hx : a.eval x = v2) (hv2 : SOwn w B2 v2 l2) (hn : out.length + l2.length ≤ 8000000)
    (h : ∀ A c w', SOwn w' B (.slice A (out.length + l2.length) c) (out ++ l2) → Below B w w' → wpList Tryz.prog ops Q rest (a.put o.dst (.slice A (out.length + l2.length) c)) w') : wpList Tryz.prog ops Q (o :: rest) a w := by
  obtain ⟨A, c, rfl, hc, _, _⟩ := hv2.form
  have hrd : Rd w w.heap.size 1 A l2.length (strs l2) := Rd.of_own hv2
  refine wpList_appendRd hgd s x 38 ho B 9 _ 1 16 Tryz.underlying38 infoS rfl (by decide) v out.length _ hs hv w.heap.size A l2.length c _ hx hrd (strs_one l2) (by omega) (by omega) hB ?_
  intro A' cap w' hown hb _
  refine h _ _ w' ?_ hb
  unfold SOwn
  rw [List.length_append, show strs (out ++ l2) = strs out ++ strs l2 by simp [strs]]
  exact hown
theorem SOwn.empty (w : World) (B : Nat) (hB : B ≤ w.heap.size) : SOwn (w.alloc (.cells #[] 9)) B (.slice (some ⟨w.heap.size, 0, none⟩) 0 0) [] :=
  ⟨rfl, .inr ⟨w.heap.size, 0, #[], rfl, hB, heap_alloc_new w _, Nat.le_refl _, Nat.zero_le _, rfl, rfl⟩⟩
theorem SOwn.alloc {w : World} {B : Nat} {v : Value} {l : List Bs} (h : SOwn w B v l) (o : Obj) : SOwn (w.alloc o) B v l := h.keep (below_one w o)
/-- 'append([]string{}, l...)'. -/
theorem wpList_copyS {w : World} {ops : Array Oper} {rest : List Oper} {o : Oper} {a : Act} {Q : Exit → Act → World → Prop} (hgd : o.guard = none) (s x : Operand)
    (ho : o.op = .call { callee := .builtin .append, args := #[s, x], argTypes := #[38, 38] })
    (B : Nat) (hB : B ≤ w.heap.size) (l2 : List Bs) (hs : a.eval s = .slice (some ⟨w.heap.size, 0, none⟩) 0 0) (B2 : Nat) (v2 : Value) (hx : a.eval x = v2) (hv2 : SOwn w B2 v2 l2) (hn : l2.length ≤ 8000000)
    (h : ∀ A c w', SOwn w' B (.slice A l2.length c) l2 → Below B w w' → wpList Tryz.prog ops Q rest (a.put o.dst (.slice A l2.length c)) w') : wpList Tryz.prog ops Q (o :: rest) a (w.alloc (.cells #[] 9)) := by
  refine wpList_appendS hgd s x ho B (by simp; omega) [] l2 _ hs (SOwn.empty w B hB) B2 v2 hx (hv2.alloc _) (by simpa using hn) ?_
  intro A c w' h1 h2
  have e : ([] : List Bs).length + l2.length = l2.length := by simp
  rw [e] at h1 ⊢
  exact h A c w' h1 (((Below.refl B w).alloc hB _).trans h2)
def stepR (x : Bs) (out : List Bs) : List Bs := if x = d1 ∨ x = d2 then (if x = d2 then out.dropLast else out) else out ++ [x]
theorem dotsGoR_step (x : Bs) (t out : List Bs) (sl : Bool) : dotsGoR (x :: t) out sl = dotsGoR t (stepR x out) (decide (x = d1 ∨ x = d2)) := rfl
set_option maxHeartbeats 16000000 in
set_option maxRecDepth 100000 in
theorem rdots_any (p : Bs) (w : World) (hl : p.length ≤ 3000000) :
    Calls Tryz.prog 20 #[.string (bs p)] w fun e w' => e = .returned (.string (bs (dotsP p))) ∧ Below w.heap.size w w' := by
  by_cases h47 : ∃ r, p = 47 :: r
  · obtain ⟨r, rfl⟩ := h47
    have q1 : ((bs (47 :: r)).toList == []) = false := by rw [bs_toList]; rfl
    have q2 : (bs (47 :: r)).toList = [] ↔ False := by rw [bs_toList]; simp
    have q3 : (bs (47 :: r)).toList.isEmpty = false := by rw [bs_toList]; rfl
    have hx := str_byte (47 :: r) 0 (by simp)
    have hx : ∀ W, (Instr.index 9 (.string (bs (47 :: r))) (.int .i64 0)).run Tryz.prog W = .ok (.int .u8 47) W := hx
    have hfr := str_from (47 :: r) 1 (by simp)
    have hfr : ∀ W, (Instr.slice 9 (.string (bs (47 :: r))) (some (.int .i64 1)) none none).run Tryz.prog W = .ok (.string (bs r)) W := hfr
    rw [List.length_cons] at hl
    have hdl := dots_len (47 :: r)
    rw [← dotsR_eq] at hdl ⊢
    have hd : dotsR (47 :: r) = (if (if (dotsGoR (splitC 47 r) [] false).2 = true then (dotsGoR (splitC 47 r) [] false).1 ++ [[]] else (dotsGoR (splitC 47 r) [] false).1).flatMap (fun p => 47 :: p) = [] then [47] else (if (dotsGoR (splitC 47 r) [] false).2 = true then (dotsGoR (splitC 47 r) [] false).1 ++ [[]] else (dotsGoR (splitC 47 r) [] false).1).flatMap (fun p => 47 :: p)) := by
      rw [dotsR_cons, if_pos rfl]
    have hsp := Lib.hid (rsplit_any r 47 w (by omega))
    have hsl := split_len 47 r
    have hPne := splitC_ne 47 r
    obtain ⟨R, hR⟩ : ∃ R, R = dotsR (47 :: r) := ⟨_, rfl⟩
    rw [← hR] at hd hdl ⊢
    generalize bs (47 :: r) = S at *
    generalize bs r = S2 at *
    obtain ⟨D, hD⟩ : ∃ D, D = dotsGoR (splitC 47 r) [] false := ⟨_, rfl⟩
    rw [← hD] at hd
    generalize splitC 47 r = P at *
    obtain ⟨L, hL⟩ : ∃ L, L = (if D.2 = true then D.1 ++ [[]] else D.1) := ⟨_, rfl⟩
    rw [← hL] at hd
    rw [List.length_cons] at hdl
    have HD := Lib.hid hD; have HL := Lib.hid hL; have HR := Lib.hid hd
    clear hR hD hL hd
    go_enter Tryz.func20, Tryz.ntmps20
    go_upto_region 6 with (go_at_call 60; refine hsp.out.mono ?_; rintro e w1 ⟨vP, rfl, hoP, hb1⟩; obtain ⟨AP, cP, hvP, hcP, hcmP, hANP⟩ := hoP.form; subst hvP; have HoP := Lib.hid hoP; have HB1 := Lib.hid hb1; clear hoP hb1)
    obtain ⟨gP, rfl, hgB, hgP⟩ := own_some HoP.out (List.length_pos_iff.2 hPne)
    have hcell0 : ∀ j, j < P.length → w1.cell? ⟨gP, j, none⟩ = some (.string (bs (P.getD j []))) := fun j hj => by
      rw [HoP.out.cellAt j (by omega), strs_at P j hj]
    have HC0 := Lib.hid hcell0
    clear hcell0 hsp HoP q1 q2 q3 hx hfr
    go_loopw [3, 4, 22] (fun v sl i wr => ∃ (j : Nat) (O : List Bs) (b : Bool), i = .int .i64 (j : Int) ∧ sl = .bool b ∧ j ≤ P.length ∧ O.length ≤ j ∧ Hid (D = dotsGoR (P.drop j) O b) ∧ Hid (SOwn wr w1.heap.size v O) ∧ Hid (Below w1.heap.size w1 wr)) (fun _ _ i _ => P.length - (intOf i).toNat)
    case atStart => exact ⟨0, [], false, rfl, rfl, Nat.zero_le _, Nat.le_refl _, Lib.hid HD.out, Lib.hid SOwn.nil, Lib.hid (Below.refl _ _)⟩
    case round =>
      obtain ⟨j, O, b, rfl, rfl, hj, hO, HDj, HO, HB⟩ := hrel
      have hBs := HB.out.size
      obtain ⟨A, c, hv, hc, hcm, hAn⟩ := HO.out.form
      subst hv
      by_cases hjn : j < P.length
      · have tj : decide ((j : Int) < (P.length : Int)) = true := by rw [decide_eq_true_eq]; omega
        have hdr : P.drop j = P.getD j [] :: P.drop (j + 1) := by rw [List.drop_eq_getElem_cons hjn]; simp [hjn]
        have hcell : wr.cell? ⟨gP, j, none⟩ = some (.string (bs (P.getD j []))) := (HB.out.cell (p := ⟨gP, j, none⟩) hgP).trans (HC0.out j hjn)
        have hst : D = dotsGoR (P.drop (j + 1)) (stepR (P.getD j []) O) (decide (P.getD j [] = d1 ∨ P.getD j [] = d2)) := by rw [HDj.out, hdr, dotsGoR_step]
        generalize P.getD j [] = x at *
        have HST := Lib.hid hst
        clear hst hdr
        have q1 : ((bs x).toList == [46]) = decide (x = d1) := by rw [eq_bs, Bool.eq_iff_iff, beq_iff_eq, decide_eq_true_eq]; rfl
        have q2 : ((bs x).toList == [46, 46]) = decide (x = d2) := by rw [eq_bs, Bool.eq_iff_iff, beq_iff_eq, decide_eq_true_eq]; rfl
        by_cases h2 : x = d2
        · have h1 : ¬ x = d1 := by rw [h2]; decide
          rw [decide_eq_true h2] at q2
          rw [decide_eq_false h1] at q1
          have hs2 : D = dotsGoR (P.drop (j + 1)) O.dropLast true := by rw [HST.out, decide_eq_true (Or.inr h2)]; unfold stepR; rw [if_pos (Or.inr h2), if_pos h2]
          have HS2 := Lib.hid hs2
          clear hs2 h1 h2
          by_cases h0 : O.length = 0
          · have tg : decide ((O.length : Int) > 0) = false := decide_eq_false (by omega)
            have tg2 : decide (0 < O.length) = false := decide_eq_false (by omega)
            have hO0 : O.dropLast = O := by rw [List.eq_nil_of_length_eq_zero h0]; rfl
            have HS3 := Lib.hid (by have := HS2.out; rwa [hO0] at this)
            clear hO0 h0
            go_wp2_with fail
            exact ⟨⟨j + 1, O, true, by go_num, rfl, by omega, by omega, HS3, HO, HB⟩, by simp [intOf]; omega⟩
          · have tg : decide ((O.length : Int) > 0) = true := decide_eq_true (by omega)
            have tg2 : decide (0 < O.length) = true := decide_eq_true (by omega)
            have hdo := HO.out.drop
            obtain ⟨m, hm⟩ : ∃ m, m = O.length - 1 := ⟨_, rfl⟩
            rw [← hm] at hdo
            have hm1 : (O.length : Int) - 1 = (m : Int) := by omega
            have hmc : m ≤ c := by omega
            have hdl2 : O.dropLast.length ≤ j + 1 := by rw [List.length_dropLast]; omega
            have HDO := Lib.hid hdo; have HDL := Lib.hid hdl2
            clear hdo hm hdl2 HO
            go_wp2_with fail
            exact ⟨⟨j + 1, O.dropLast, true, by go_num, rfl, by omega, HDL.out, HS2, HDO, HB⟩, by simp [intOf]; omega⟩
        · rw [decide_eq_false h2] at q2
          by_cases h1 : x = d1
          · rw [decide_eq_true h1] at q1
            have hs2 : D = dotsGoR (P.drop (j + 1)) O true := by rw [HST.out, decide_eq_true (Or.inl h1)]; unfold stepR; rw [if_pos (Or.inl h1), if_neg h2]
            have HS2 := Lib.hid hs2
            clear hs2 h1 h2
            go_wp2_with fail
            exact ⟨⟨j + 1, O, true, by go_num, rfl, by omega, by omega, HS2, HO, HB⟩, by simp [intOf]; omega⟩
          · rw [decide_eq_false h1] at q1
            have hno : ¬ (x = d1 ∨ x = d2) := by rintro (h | h); exact h1 h; exact h2 h
            have hs2 : D = dotsGoR (P.drop (j + 1)) (O ++ [x]) false := by rw [HST.out, decide_eq_false hno]; unfold stepR; rw [if_neg hno]
            have HS2 := Lib.hid hs2
            clear hs2 h1 h2 hno
            go_wp2_with (first | (at_builtin; refine wpList_copyS rfl (.tmp 46) (.tmp 47) rfl w1.heap.size hBs O (by rfl) w1.heap.size _ (by rfl) HO.out (by omega) ?_; intro A3 c3 w3 ho3 hb3; have HO3 := Lib.hid ho3; have hBs3 := (HB.out.trans hb3).size; have HB3 := Lib.hid (HB.out.trans hb3); clear ho3 hb3) | (at_builtin; refine wpList_pushS rfl (.tmp 48) (.tmp 50) rfl w1.heap.size hBs3 O _ (by rfl) HO3.out x (by rfl) (by omega) ?_; intro A2 c2 w2 ho2 hb2; have HO2 := Lib.hid ho2; have HB2 := Lib.hid (HB3.out.trans hb2); clear ho2 hb2))
            exact ⟨⟨j + 1, O ++ [x], false, by go_num, rfl, by omega, by rw [List.length_append]; exact Nat.succ_le_succ hO, HS2, HO2, HB2⟩, by simp [intOf]; omega⟩
      · obtain rfl : j = P.length := by omega
        have tj : decide ((P.length : Int) < (P.length : Int)) = false := by rw [decide_eq_false_iff_not]; omega
        have hD2 : D = (O, b) := by rw [HDj.out, List.drop_of_length_le (Nat.le_refl _)]; rfl
        have hL2 : L = if b = true then O ++ [[]] else O := by rw [HL.out, hD2]
        have HL2 := Lib.hid hL2
        have hLl : L.length ≤ P.length + 1 := by
          rw [hL2]
          split
          · rw [List.length_append]; simp; omega
          · omega
        clear hD2 hL2 hjn
        go_upto_if 53 with fail
        go_cut [3] (fun v wx => SOwn wx w1.heap.size v L ∧ Below w1.heap.size w1 wx)
        case first =>
          cases b with
          | true =>
            have hLO := Lib.hid (HL2.out.trans (if_pos rfl))
            go_wp2_with (first | (at_builtin; refine wpList_copyS rfl (.tmp 54) (.tmp 55) rfl w1.heap.size hBs O (by rfl) w1.heap.size _ (by rfl) HO.out (by omega) ?_; intro A3 c3 w3 ho3 hb3; have HO3 := Lib.hid ho3; have hBs3 := (HB.out.trans hb3).size; have HB3 := Lib.hid (HB.out.trans hb3); clear ho3 hb3) | (at_builtin; refine wpList_pushS rfl (.tmp 56) (.tmp 57) rfl w1.heap.size hBs3 O _ (by rfl) HO3.out [] (by rfl) (by omega) ?_; intro A2 c2 w2 ho2 hb2; have HO2 := Lib.hid ho2; have HB2 := Lib.hid (HB3.out.trans hb2); clear ho2 hb2))
            go_meet
            exact ⟨by rw [hLO.out]; exact HO2.out, HB2.out⟩
          | false =>
            have hLO := Lib.hid (HL2.out.trans (if_neg (by decide)))
            go_wp2_with fail
            go_meet
            exact ⟨by rw [hLO.out]; exact HO.out, HB.out⟩
        case rest =>
          obtain ⟨hoL, hbL⟩ := hcut
          obtain ⟨AL, cL, hvL, hcL, hcmL, hANL⟩ := hoL.form
          subst hvL
          have HOL := Lib.hid hoL; have HBL := Lib.hid hbL
          clear hoL hbL HO HB HDj HL HL2
          obtain ⟨F, hF⟩ : ∃ F, F = L.flatMap (fun p => 47 :: p) := ⟨_, rfl⟩
          have hRF : R = if F = [] then [47] else F := by rw [HR.out, hF]
          have hFl : F.length ≤ r.length + 1 := by
            by_cases h : F = []
            · rw [h]; simp
            · rw [if_neg h] at hRF; rw [← hRF]; exact hdl
          have HF := Lib.hid hF; have HRF := Lib.hid hRF
          clear hF hRF
          have hcellL : ∀ W, Below w1.heap.size w1 W → True := fun _ _ => trivial
          clear hcellL
          go_upto_region 18 with fail
          go_loop [7, 61] (fun acc i => ∃ (j : Nat) (T : Bs), i = .int .i64 (j : Int) ∧ acc = .string (bs T) ∧ j ≤ L.length ∧ T.length ≤ 3000001 ∧ Hid (F = T ++ (L.drop j).flatMap (fun p => 47 :: p))) (fun _ i => L.length - (intOf i).toNat)
          case atStart => exact ⟨0, [], rfl, rfl, Nat.zero_le _, Nat.zero_le _, Lib.hid HF.out⟩
          case round =>
            obtain ⟨j, T, rfl, rfl, hj, hTl, HT⟩ := hrel
            by_cases hjn : j < L.length
            · have tj : decide ((j : Int) < (L.length : Int)) = true := by rw [decide_eq_true_eq]; omega
              obtain ⟨gL, rfl, _, hgL⟩ := own_some HOL.out (by omega)
              have hcell : wc.cell? ⟨gL, j, none⟩ = some (.string (bs (L.getD j []))) := by
                rw [HOL.out.cellAt j (by omega), strs_at L j hjn]
              have hdr : L.drop j = L.getD j [] :: L.drop (j + 1) := by rw [List.drop_eq_getElem_cons hjn]; simp [hjn]
              have hF2 : F = (T ++ 47 :: L.getD j []) ++ (L.drop (j + 1)).flatMap (fun p => 47 :: p) := by
                rw [HT.out, hdr, List.flatMap_cons]; simp
              have hTl2 : (T ++ 47 :: L.getD j []).length ≤ 3000001 := by
                have := congrArg List.length hF2
                rw [List.length_append] at this
                omega
              generalize L.getD j [] = x at *
              have e1 : bs (T ++ 47 :: x) = bs T ++ (bs [47] ++ bs x) := by rw [bs_cat, bs_cat]; rfl
              have HF2 := Lib.hid hF2; have HE1 := Lib.hid e1; have HTL2 := Lib.hid hTl2
              have z1 : (bs T).size ≤ 3000001 := by rw [bs_size]; exact hTl
              have z2 : (bs x).size ≤ 3000001 := by rw [bs_size]; rw [List.length_append, List.length_cons] at hTl2; omega
              clear hdr hF2 e1 hTl2
              go_wp2_with fail
              exact ⟨⟨j + 1, T ++ 47 :: x, by go_num, by rw [HE1.out]; rfl, by omega, HTL2.out, HF2⟩, by simp [intOf]; omega⟩
            · obtain rfl : j = L.length := by omega
              have tj : decide ((L.length : Int) < (L.length : Int)) = false := by rw [decide_eq_false_iff_not]; omega
              have hFT : F = T := by rw [HT.out, List.drop_of_length_le (Nat.le_refl _)]; simp
              subst hFT
              obtain ⟨ub, hub⟩ : ∃ ub, ub = F.isEmpty := ⟨_, rfl⟩
              have t1 : ((bs F).toList == []) = ub := by rw [hub]; exact (by rw [bs_toList]; cases F <;> rfl)
              have t2 : (bs F).toList.isEmpty = ub := by rw [hub, bs_toList]
              have HUB := Lib.hid hub
              have hW := HB1.out.trans (HBL.out.mono HB1.out.size)
              have HW := Lib.hid hW
              clear hub hjn hW
              cases ub with
              | true =>
                have hr : R = [47] := by rw [HRF.out, if_pos (List.isEmpty_iff.1 HUB.out.symm)]
                have Hr := Lib.hid hr
                clear hr
                go_wp2_with fail
                go_ret
                exact ⟨by rw [Hr.out]; rfl, HW.out⟩
              | false =>
                have hr : R = F := by rw [HRF.out, if_neg (fun e => by have := HUB.out; rw [e] at this; cases this)]
                have Hr := Lib.hid hr
                clear hr
                go_wp2_with fail
                go_ret
                exact ⟨by rw [Hr.out]; rfl, HW.out⟩
  · have e1 : dotsP p = p ∧ (p = [] ∨ ∃ c r, p = c :: r ∧ c ≠ 47) := by
      match p with
      | [] => exact ⟨rfl, .inl rfl⟩
      | x :: r =>
        have hx : x ≠ 47 := fun e => h47 ⟨r, by rw [e]⟩
        exact ⟨by rw [dotsP_cons, if_neg hx], .inr ⟨x, r, rfl, hx⟩⟩
    obtain ⟨e1, e2⟩ := e1
    rw [e1]
    clear e1 h47 hl
    rcases e2 with rfl | ⟨c, r, rfl, hc⟩
    · have q1 : ((bs []).toList == []) = true := by rw [bs_toList]; rfl
      have q2 : (bs []).toList = [] := bs_toList []
      generalize bs [] = S at *
      go_enter Tryz.func20, Tryz.ntmps20
      go_wp2_with fail
      go_ret
      exact ⟨rfl, Below.refl _ _⟩
    · have q1 : ((bs (c :: r)).toList == []) = false := by rw [bs_toList]; rfl
      have q2 : (bs (c :: r)).toList = [] ↔ False := by rw [bs_toList]; simp
      have q3 : (bs (c :: r)).toList.isEmpty = false := by rw [bs_toList]; rfl
      have hx := str_byte (c :: r) 0 (by simp)
      have hx : ∀ W, (Instr.index 9 (.string (bs (c :: r))) (.int .i64 0)).run Tryz.prog W = .ok (.int .u8 ((c.toNat : Nat) : Int)) W := hx
      have t1 : (((c.toNat : Nat) : Int) == 47) = false := (u8_beq c 47 47 rfl).trans (by simpa using hc)
      generalize bs (c :: r) = S at *
      generalize ((c.toNat : Nat) : Int) = y at *
      have t2 : (y != 47) = true := by rw [bne, t1]; rfl
      clear hc
      go_enter Tryz.func20, Tryz.ntmps20
      go_wp2_with fail
      go_ret
      exact ⟨rfl, Below.refl _ _⟩
end Go.Proofs.YtcpkkaimingnlaaGreatDoor
end
