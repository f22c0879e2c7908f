/-
  Plain facts for the walk of the document's Parse: what it computes, step by step.
-/
import Derived.Test.YtcpkkaimingnlaaGreatDoorLkd
import Derived.Test.YtcpkkaimingnlaaGreatDoorLun
namespace Go.Proofs.YtcpkkaimingnlaaGreatDoor

theorem out1 (c : UInt8) : out [c] = ne c := by
  funext x
  unfold out ne
  rw [Bool.eq_iff_iff]
  simp
theorem stop_le (ch s : Bs) : stop ch s ≤ s.length := (List.takeWhile_sublist _).length_le
theorem parseR_stop (s : Bs) (h : s.length ≤ 2048) : parseR s = if isHttp (small (s.take (stop [58] s))) = false ∨ s.length < stop [58] s + 3 ∨ (s.take (stop [58] s + 3)).drop (stop [58] s) ≠ [58, 47, 47] then none else hostR (s.take (stop [58] s)) (s.drop (stop [58] s + 3)) := by
  have e1 : s.takeWhile (ne 58) = s.take (stop [58] s) := by rw [take_stop, out1]
  have e2 : s.dropWhile (ne 58) = s.drop (stop [58] s) := by rw [drop_stop, out1]
  have e3 : (s.take (stop [58] s)).length = stop [58] s := by rw [List.length_take]; exact Nat.min_eq_left (stop_le _ _)
  unfold parseR
  rw [if_neg (by omega), e1, e2, e3, List.drop_drop, List.drop_take, show stop [58] s + 3 - stop [58] s = 3 by omega]
theorem hostR_stop (sch rest : Bs) : hostR sch rest = if (rest.take (stop [58, 47, 63, 35] rest)).all hostB = false then none else if stop [58, 47, 63, 35] rest < 1 ∨ 253 < stop [58, 47, 63, 35] rest then none else afterR sch (rest.take (stop [58, 47, 63, 35] rest)) (rest.drop (stop [58, 47, 63, 35] rest)) := by
  have e3 : (rest.take (stop [58, 47, 63, 35] rest)).length = stop [58, 47, 63, 35] rest := by rw [List.length_take]; exact Nat.min_eq_left (stop_le _ _)
  unfold hostR
  dsimp only
  rw [← take_stop, ← drop_stop, e3]
theorem numGo_bd (b : Nat) : ∀ (m : Nat) (s : Bs) (n k : Nat), (numGo b m s n k).2 ≤ k + s.length
  | 0, s, n, k => by unfold numGo; exact Nat.le_add_right _ _
  | m + 1, [], n, k => by unfold numGo; exact Nat.le_add_right _ _
  | m + 1, c :: r, n, k => by
    unfold numGo
    split
    · exact Nat.le_add_right _ _
    · have := numGo_bd b m r (b * n + ‹Nat›) (k + 1)
      rw [List.length_cons]
      omega
theorem numR_bd (b m : Nat) (s : Bs) : (numR b m s).2 ≤ s.length := by
  have := numGo_bd b m s 0 0
  unfold numR
  omega
theorem numGo_cap (b : Nat) : ∀ (m : Nat) (s : Bs) (n k : Nat), (numGo b m s n k).2 ≤ k + m
  | 0, s, n, k => by unfold numGo; exact Nat.le_add_right _ _
  | m + 1, [], n, k => by unfold numGo; exact Nat.le_add_right _ _
  | m + 1, c :: r, n, k => by
    unfold numGo
    split
    · exact Nat.le_add_right _ _
    · have := numGo_cap b m r (b * n + ‹Nat›) (k + 1)
      omega
theorem rightR_step (t : Bs) (j : Nat) (h : j < t.length) : rightR (t.drop j) = (decide (33 ≤ (t.getD j 0).toNat) && decide ((t.getD j 0).toNat ≤ 126) && !marksB.contains (t.getD j 0) && ((t.getD j 0) != 37 || !decide ((numR 16 2 (t.drop (j + 1))).2 < 2)) && rightR (t.drop (j + 1))) := by
  rw [List.drop_eq_getElem_cons h]
  have e : t.getD j 0 = t[j] := by simp [h]
  rw [e]
  rfl
theorem rightR_bad (t : Bs) : ∀ j, rightR (t.drop j) = false → rightR t = false := by
  intro j
  induction j with
  | zero => intro h; exact h
  | succ j ih =>
    intro h
    apply ih
    rcases Nat.lt_or_ge j t.length with hj | hj
    · rw [rightR_step t j hj, h, Bool.and_false]
    · rw [List.drop_eq_nil_of_le hj]
      rw [List.drop_eq_nil_of_le (by omega)] at h
      exact h
theorem stop_one (ch : Bs) (c : UInt8) : stop ch [c] = if ch.contains c = true then 0 else 1 := by
  unfold stop
  unfold out List.takeWhile
  cases h : ch.contains c with
  | true => rfl
  | false => rfl
theorem stop_in (c : UInt8) (s : Bs) : decide (stop [c] s < s.length) = s.contains c := by
  unfold stop
  rw [out1]
  have h := tw_dw (ne c) s
  have h2 := tw_mem (p := ne c) s
  have h3 := dw_head (p := ne c) s
  cases hd : s.dropWhile (ne c) with
  | nil =>
    rw [hd, List.append_nil] at h
    rw [h, decide_eq_false (Nat.lt_irrefl _)]
    symm
    cases hc : s.contains c with
    | false => rfl
    | true =>
      rw [h] at h2
      have hm : c ∈ s := by simpa using hc
      exact absurd rfl (ne_true.1 (h2 c hm))
  | cons y r =>
    have hy := ne_false.1 (h3 y r hd)
    subst hy
    rw [hd] at h
    rw [decide_eq_true (by have hl := congrArg List.length h; rw [List.length_append, List.length_cons] at hl; omega)]
    symm
    have hm : y ∈ s := by rw [← h]; simp
    simpa using hm
/-- What follows the path. -/
def midR (v : Bs) : Bs × Bool × Bs :=
  match v with
  | 63 :: r => (r.take (stop [35] r), true, r.drop (stop [35] r))
  | v => ([], false, v)
theorem midR_no (v : Bs) (h : ∀ r, v ≠ 63 :: r) : midR v = ([], false, v) := by
  unfold midR
  split
  · rename_i r; exact absurd rfl (h r)
  · rfl
theorem tailR_mid (t : Bs) : tailR t = (t.take (stop [63, 35] t), (midR (t.drop (stop [63, 35] t))).1, (midR (t.drop (stop [63, 35] t))).2.2.drop 1, (midR (t.drop (stop [63, 35] t))).2.1, !(midR (t.drop (stop [63, 35] t))).2.2.isEmpty) := by
  unfold tailR
  dsimp only
  rw [← take_stop, ← drop_stop]
  generalize t.take (stop [63, 35] t) = p
  generalize t.drop (stop [63, 35] t) = v
  cases v with
  | nil => rfl
  | cons c r =>
    dsimp only
    by_cases h : c = 63
    · subst h
      rw [if_pos rfl]
      have e : midR (63 :: r) = (r.take (stop [35] r), true, r.drop (stop [35] r)) := rfl
      rw [e, take_stop, drop_stop, out1]
      cases r.dropWhile (ne 35) <;> rfl
    · rw [if_neg h, midR_no (c :: r) (fun r' e => h (by injection e))]
      rfl
theorem endR_bad {sch host : Bs} {port : Nat} {c : UInt8} {r : Bs} (h1 : c ≠ 47) (h2 : c ≠ 63) (h3 : c ≠ 35) : endR sch host port (c :: r) = none := by
  unfold endR
  dsimp only
  rw [if_pos ⟨h1, h2, h3⟩]
theorem endR_wrong {sch host : Bs} {port : Nat} {t : Bs} (h : rightR t = false) : endR sch host port t = none := by
  cases t with
  | nil => cases h
  | cons c r =>
    unfold endR
    dsimp only
    by_cases h1 : c ≠ 47 ∧ c ≠ 63 ∧ c ≠ 35
    · rw [if_pos h1]
    · rw [if_neg h1, if_pos h]
theorem endR_ok {sch host : Bs} {port : Nat} {t : Bs} (ht : ∀ c r, t = c :: r → c = 47 ∨ c = 63 ∨ c = 35) (hr : rightR t = true) :
    endR sch host port t = if ((midR (t.drop (stop [63, 35] t))).2.2.drop 1).contains 35 = true then none else some ⟨sch, host, port, t.take (stop [63, 35] t), (midR (t.drop (stop [63, 35] t))).1, (midR (t.drop (stop [63, 35] t))).2.2.drop 1, (midR (t.drop (stop [63, 35] t))).2.1, !(midR (t.drop (stop [63, 35] t))).2.2.isEmpty⟩ := by
  cases t with
  | nil => rfl
  | cons c r =>
    have e := tailR_mid (c :: r)
    have hc := ht c r rfl
    unfold endR
    dsimp only
    rw [if_neg (by rintro ⟨h1, h2, h3⟩; rcases hc with h | h | h <;> contradiction), if_neg (by rw [hr]; decide), e]
theorem midR_yes (r : Bs) : midR (63 :: r) = (((63 :: r : Bs).take (stop [35] (63 :: r))).drop 1, true, (63 :: r : Bs).drop (stop [35] (63 :: r))) ∧ 1 ≤ stop [35] (63 :: r) := by
  have e : stop [35] (63 :: r) = stop [35] r + 1 := by
    unfold stop
    rw [List.takeWhile_cons, if_pos (by decide), List.length_cons]
  rw [e]
  exact ⟨rfl, Nat.le_add_left _ _⟩
end Go.Proofs.YtcpkkaimingnlaaGreatDoor
