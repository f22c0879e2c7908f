/-
  link.absolute.
-/
import Derived.Test.YtcpkkaimingnlaaGreatDoorLia
import Derived.Test.YtcpkkaimingnlaaGreatDoorLsm
namespace Go.Proofs.YtcpkkaimingnlaaGreatDoor
open Go.RowKit

def ch4 : Bs := [58, 47, 63, 35]
theorem ix_lt (ch s : Bs) : Lib.indexAny s ch < s.length := by
    have h := stop_any ch s
    by_cases hI : Lib.indexAny s ch < 0
    · omega
    · rw [if_neg hI] at h
      have hl : stop ch s ≤ s.length := by unfold stop; exact (List.takeWhile_sublist _).length_le
      rcases Nat.lt_or_ge (stop ch s) s.length with h1 | h1
      · omega
      · exfalso
        have e : stop ch s = s.length := by omega
        have hn : Lib.indexAny s ch = -1 := by
          refine Lib.indexAny_none ?_
          intro j b hj hb
          have ht : s.takeWhile (out ch) = s := by
            rw [← take_stop, e, List.take_length]
          have hm : b ∈ s.takeWhile (out ch) := by rw [ht]; exact List.mem_of_getElem? hb
          have hp : out ch b = true := by
            have := List.all_takeWhile (l := s) (p := out ch)
            exact List.all_eq_true.1 this b hm
          simpa [out] using hp
        omega
theorem abs_no (l : Bs) (h : ¬ 0 < Lib.indexAny l ch4) : absP l = false := by
  unfold absP
  split
  · rename_i c r d r' h1
    have hs := stop_any ch4 (c :: r)
    have : ¬ 0 < stop [58, 47, 63, 35] (c :: r) := by
      intro h0
      by_cases hI : Lib.indexAny (c :: r) ch4 < 0
      · rw [if_pos hI] at hs
        have hd := drop_stop ch4 (c :: r)
        rw [show stop ch4 (c :: r) = (c :: r).length by omega, List.drop_length] at hd
        have h1' : (c :: r).dropWhile (out ch4) = d :: r' := h1
        rw [h1'] at hd; cases hd
      · rw [if_neg hI] at hs
        have h0' : 0 < stop ch4 (c :: r) := h0
        omega
    rw [decide_eq_false this]; rfl
  · rfl
theorem abs_yes (l : Bs) (m : Nat) (h : Lib.indexAny l ch4 = (m : Int)) (hm : 0 < m) : m < l.length ∧ absP l = ((l.getD m 0 == 58) && (alB (l.getD 0 0) && decide (57 < (l.getD 0 0).toNat))) := by
  have hlt := ix_lt ch4 l
  have hml : m < l.length := by omega
  refine ⟨hml, ?_⟩
  have hs := stop_any ch4 l
  rw [if_neg (by omega), h] at hs
  have hst : stop ch4 l = m := by omega
  have hd := drop_stop ch4 l
  rw [hst, List.drop_eq_getElem_cons hml] at hd
  have e : l.getD m 0 = l[m] := by simp [hml]
  unfold absP
  match l, hml, hst, hd, e with
  | c :: r, hml, hst, hd, e =>
    have hd' : (c :: r).dropWhile (out [58, 47, 63, 35]) = (c :: r)[m] :: List.drop (m + 1) (c :: r) := hd.symm
    rw [hd']
    have hst' : stop [58, 47, 63, 35] (c :: r) = m := hst
    dsimp only
    rw [hst', decide_eq_true hm, Bool.true_and, e]
    rfl
set_option maxHeartbeats 2000000 in
theorem abs_any (l : Bs) (hl : l.length ≤ 4000000) (w : World) :
    Calls Tryz.prog 52 #[.string (bs l)] w fun e w' => e = .returned (.bool (absP l)) ∧ Below w.heap.size w w' := by
  have hc := Lib.hid (ixany_any l ch4 (by decide) (by decide) (by decide) hl w)
  by_cases h0 : 0 < Lib.indexAny l ch4
  · obtain ⟨m, hm⟩ : ∃ m : Nat, Lib.indexAny l ch4 = (m : Int) := ⟨(Lib.indexAny l ch4).toNat, by omega⟩
    obtain ⟨hml, hP⟩ := abs_yes l m hm (by omega)
    rw [hm] at hc
    have hi1 := str_byte l m hml
    have hi2 := str_byte l 0 (by omega)
    have hi2 : ∀ W, (Instr.index 9 (.string (bs l)) (.int .i64 0)).run Tryz.prog W = .ok (.int .u8 (((l.getD 0 0).toNat : Nat) : Int)) W := hi2
    have hg : decide ((0 : Int) < (m : Int)) = true := decide_eq_true (by omega)
    rw [hP]
    have h44 := Lib.hid (fun W => letter_any (l.getD 0 0) W)
    have e1 := u8_beq (l.getD m 0) 58 58 rfl
    have e2 : decide ((57 : Int) < (((l.getD 0 0).toNat : Nat) : Int)) = decide (57 < (l.getD 0 0).toNat) := by
      rw [Bool.eq_iff_iff, decide_eq_true_eq, decide_eq_true_eq]; omega
    unfold u8v at h44
    generalize l.getD m 0 = d at *
    generalize l.getD 0 0 = c at *
    have e1 : ((d.toNat : Int) == 58) = (d == 58) := e1
    generalize hx : (d == 58) = x1 at *
    generalize hy : alB c = x2 at *
    generalize hz : decide (57 < c.toNat) = x3 at *
    have hm0 : 0 < m := by omega
    clear hP hm h0 hl hml hx hy hz
    generalize bs l = S at *
    cases x1 <;> cases x2 <;> cases x3
    all_goals
      go_enter Tryz.func52, Tryz.ntmps52
      go_wp2_with (first | (go_at_call 40; refine hc.out.mono ?_; rintro e w' ⟨rfl, hb⟩; have HB := Lib.hid hb; clear hb) | (go_at_call 44; refine (h44.out _).mono ?_; rintro e w' ⟨rfl, rfl⟩))
      all_goals first | (exfalso; omega) | (go_ret; exact ⟨rfl, HB.out⟩)
  · rw [abs_no l h0]
    have hg : decide ((0 : Int) < Lib.indexAny l ch4) = false := decide_eq_false h0
    generalize Lib.indexAny l ch4 = I at *
    clear h0 hl
    generalize bs l = S at *
    go_enter Tryz.func52, Tryz.ntmps52
    go_wp2_with (go_at_call 40; refine hc.out.mono ?_; rintro e w' ⟨rfl, hb⟩; have HB := Lib.hid hb; clear hb)
    go_ret
    exact ⟨rfl, HB.out⟩
end Go.Proofs.YtcpkkaimingnlaaGreatDoor
