/-
  The document's machine: its small functions.
-/
import Derived.Test.YthilkpjdfjjikaaDoorPrw
import Derived.Test.YthilkpjdfjjikaaDoorMst
import Derived.OwnWalk
namespace Go.Proofs.YthilkpjdfjjikaaDoor
open Go.RowKit

theorem str_byte (l : Bs) (i : Nat) (h : i < l.length) (w : World) : (Instr.index 9 (.string (bs l)) (.int .i64 (i : Int))).run Tryd.prog w = .ok (.int .u8 (((l.getD i 0).toNat : Nat) : Int)) w := by
  rw [run_index_string _ _ _ _ _ Tryd.underlying9]
  have hs : (bs l).size = l.length := bs_size l
  rw [dif_pos ⟨by omega, by rw [hs]; omega⟩]
  have e : ((bs l)[(i : Int).toNat]'(by rw [hs]; omega)) = l.getD i 0 := by
    show l.toArray[(i : Int).toNat]'_ = _
    simp [h]
  rw [e]
theorem letterR_any (c : UInt8) (w : World) : Calls Tryd.prog 55 #[u8v c] w fun e w' => e = .returned (.bool (letterB c)) ∧ w' = w := by
  unfold letterB u8v
  generalize c.toNat = n
  go_enter Tryd.func55, Tryd.ntmps55
  go_wp2_with fail
  all_goals go_ret
  all_goals refine ⟨congrArg (fun b => Ending.returned (Value.bool b)) ?_, rfl⟩
  all_goals first | (simp_all; done) | (rw [Bool.eq_iff_iff]; simp; omega) | trace_state
set_option maxHeartbeats 1000000 in
set_option maxRecDepth 100000 in
theorem one_any (c : UInt8) (l : Bs) (w : World) (hl : l.length ≤ 1000000) : Calls Tryd.prog 53 #[u8v c, .string (bs l)] w fun e w' => e = .returned (.bool (l.contains c)) ∧ w' = w := by
  have hz : (bs l).size = l.length := bs_size l
  have HX := Lib.hid (fun i h => str_byte l i h w)
  obtain ⟨S, hS⟩ : ∃ S, S = bs l := ⟨_, rfl⟩
  rw [← hS] at hz HX ⊢
  clear hS
  obtain ⟨n, hn⟩ : ∃ n, n = l.length := ⟨_, rfl⟩
  rw [← hn] at hz hl HX
  have Hn := Lib.hid hn; clear hn
  obtain ⟨R, hR⟩ : ∃ R, R = l.contains c := ⟨_, rfl⟩
  rw [← hR]
  have HR := Lib.hid hR; clear hR
  unfold u8v
  go_enter Tryd.func53, Tryd.ntmps53
  go_wp2_with fail
  go_loopw [5] (fun i wr => ∃ j : Nat, i = .int .i64 (j : Int) ∧ j ≤ n ∧ (∀ k, k < j → l.getD k 0 ≠ c) ∧ wr = w) (fun i _ => n - (intOf i).toNat)
  case atStart => exact ⟨0, rfl, Nat.zero_le _, fun k hk => absurd hk (Nat.not_lt_zero k), rfl⟩
  case round =>
    obtain ⟨j, rfl, hj, hno, rfl⟩ := hrel
    have HN := Lib.hid hno; clear hno
    by_cases hjn : j < n
    · have tj : decide ((j : Int) < (n : Int)) = true := by rw [decide_eq_true_eq]; omega
      have hx := HX.out j hjn
      by_cases hc : l.getD j 0 = c
      · have hr : l.contains c = true := by
          rw [List.contains_iff_mem]
          have hjl : j < l.length := by rw [← Hn.out]; exact hjn
          rw [← hc, List.getD_eq_getElem?_getD, List.getElem?_eq_getElem hjl]
          exact List.getElem_mem hjl
        have HRf := Lib.hid (HR.out.trans hr)
        rw [hc] at hx
        clear hr hc
        generalize c.toNat = cn at *
        have te : ((cn : Int) == (cn : Int)) = true := beq_self_eq_true _
        go_wp2_with fail
        go_ret
        exact ⟨by rw [HRf.out]; rfl, rfl⟩
      · have te : ((((l.getD j 0).toNat : Nat) : Int) == ((c.toNat : Nat) : Int)) = false := by
          rw [beq_eq_false_iff_ne]; intro e; exact hc (by apply UInt8.toNat_inj.1; omega)
        obtain ⟨x, hxe⟩ : ∃ x, x = l.getD j 0 := ⟨_, rfl⟩
        rw [← hxe] at te hx
        have HC := Lib.hid hc
        clear hc hxe
        generalize x.toNat = xn at te hx
        go_wp2_with fail
        refine ⟨⟨j + 1, by go_num, by omega, ?_, by first | exact rfl | exact trivial⟩, by simp [intOf]; omega⟩
        intro k hk
        by_cases h : k < j
        · exact HN.out k h
        · obtain rfl : k = j := by omega
          exact HC.out
    · obtain rfl : j = n := by omega
      have hr : l.contains c = false := by
        rw [← Bool.not_eq_true, List.contains_iff_mem]
        intro h
        obtain ⟨k, hk, e⟩ := List.mem_iff_getElem.1 h
        refine HN.out k (by rw [Hn.out]; exact hk) ?_
        rw [List.getD_eq_getElem?_getD, List.getElem?_eq_getElem hk]
        exact e
      have HRf := Lib.hid (HR.out.trans hr)
      have tj : decide ((j : Int) < (j : Int)) = false := by rw [decide_eq_false_iff_not]; omega
      clear hr
      go_wp2_with fail
      go_ret
      exact ⟨by rw [HRf.out]; rfl, rfl⟩
set_option maxRecDepth 100000 in
theorem ends_any (s t : Bs) (w : World) (hs : s.length ≤ 1000000) (ht : t.length ≤ 1000000) : Calls Tryd.prog 56 #[.string (bs s), .string (bs t)] w fun e w' => e = .returned (.bool (endsB s t)) ∧ w' = w := by
  have hz : (bs s).size = s.length := bs_size s
  have hz2 : (bs t).size = t.length := bs_size t
  by_cases h : t.length ≤ s.length
  · have hsl := fun W => str_from s (s.length - t.length) (by omega) W
    have he : endsB s t = ((bs (s.drop (s.length - t.length))).toList == (bs t).toList) := by
      unfold endsB
      rw [decide_eq_true h, Bool.true_and, bs_toList, bs_toList, Bool.eq_iff_iff]; simp
    rw [he]
    obtain ⟨X, hX⟩ : ∃ X, X = bs (s.drop (s.length - t.length)) := ⟨_, rfl⟩
    rw [← hX] at hsl ⊢
    clear hX he
    generalize bs s = S at *
    generalize bs t = T at *
    generalize s.length = n at *
    generalize t.length = m at *
    have hsl : ∀ W, (Instr.slice 9 (.string S) (some (.int .i64 ((n : Int) - (m : Int)))) none none).run Tryd.prog W = .ok (.string X) W := by
      intro W
      have := hsl W
      rw [show ((n - m : Nat) : Int) = (n : Int) - (m : Int) from by omega] at this
      exact this
    have tg : decide ((n : Int) ≥ (m : Int)) = true := by rw [decide_eq_true_eq]; omega
    go_enter Tryd.func56, Tryd.ntmps56
    go_wp2_with fail
    go_ret
    exact ⟨rfl, rfl⟩
  · have he : endsB s t = false := by
      unfold endsB
      rw [decide_eq_false h, Bool.false_and]
    rw [he]
    have tg : decide ((s.length : Int) ≥ (t.length : Int)) = false := by rw [decide_eq_false_iff_not]; omega
    clear he
    generalize bs s = S at *
    generalize bs t = T at *
    generalize s.length = n at *
    generalize t.length = m at *
    go_enter Tryd.func56, Tryd.ntmps56
    go_wp2_with fail
    go_ret
    exact ⟨rfl, rfl⟩
end Go.Proofs.YthilkpjdfjjikaaDoor
