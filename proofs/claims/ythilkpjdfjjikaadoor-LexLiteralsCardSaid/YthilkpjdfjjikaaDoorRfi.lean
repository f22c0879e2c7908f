/-
  The document's search for two bytes; its place of an insert.
-/
import Derived.Test.YthilkpjdfjjikaaDoorLay
import Derived.Test.YthilkpjdfjjikaaDoorRsb
import Derived.Test.YthilkpjdfjjikaaDoorPla
namespace Go.Proofs.YthilkpjdfjjikaaDoor
open Go.RowKit

theorem index_found (a b : UInt8) : ∀ (l : Bs) (i : Nat), (l.drop i).take 2 = [a, b] → 0 ≤ Lib.index l [a, b]
  | [], i, h => by simp at h
  | x :: l, i, h => by
    unfold Lib.index
    by_cases hp : [a, b].isPrefixOf (x :: l) = true
    · rw [if_pos hp]; exact Int.le_refl _
    · rw [if_neg hp]
      cases i with
      | zero =>
        exfalso
        apply hp
        rw [List.isPrefixOf_iff_prefix]
        rw [List.drop_zero] at h
        exact ⟨(x :: l).drop 2, by rw [← h]; exact List.take_append_drop 2 _⟩
      | succ i =>
        have ih := index_found a b l i (by simpa using h)
        rw [if_neg (by simp; omega)]
        omega
theorem cut_first (a b : UInt8) (l : Bs) (i : Nat) (h : (l.drop i).take 2 = [a, b]) (hno : ∀ j, j < i → (l.drop j).take 2 ≠ [a, b]) : (Lib.cut l [a, b]).1.length = i := by
  have hf := index_found a b l i h
  have hm : (Lib.cut l [a, b]).2.2 = true := by unfold Lib.cut; rw [if_pos hf]
  rcases cut2 a b l _ _ _ (show Lib.cut l [a, b] = ((Lib.cut l [a, b]).1, (Lib.cut l [a, b]).2.1, (Lib.cut l [a, b]).2.2) from rfl) with ⟨h1, _⟩ | ⟨_, _, _, h2, _, h3⟩
  · rw [hm] at h1; cases h1
  · by_cases hlt : (Lib.cut l [a, b]).1.length < i
    · exact absurd h2 (hno _ hlt)
    · by_cases hgt : i < (Lib.cut l [a, b]).1.length
      · exact absurd h (h3 _ hgt)
      · omega
theorem cut_never (a b : UInt8) (l : Bs) (hno : ∀ j, j + 2 ≤ l.length → (l.drop j).take 2 ≠ [a, b]) : Lib.cut l [a, b] = (l, [], false) := by
  have hge := Lib.index_ge l [a, b]
  by_cases h : 0 ≤ Lib.index l [a, b]
  · obtain ⟨i, hi⟩ : ∃ i : Nat, Lib.index l [a, b] = (i : Int) := ⟨(Lib.index l [a, b]).toNat, by omega⟩
    have := index_first2 a b l i hi
    exact absurd this.1 (hno i this.2.1)
  · unfold Lib.cut
    rw [if_neg h]
set_option maxHeartbeats 1000000 in
set_option maxRecDepth 100000 in
theorem find_any (s : Bs) (k : Nat) (a b : UInt8) (w : World) (hk : k ≤ s.length) (hl : s.length ≤ 1000000) :
    Calls Tryd.prog 32 #[.string (bs s), .int .i64 (k : Int), .string (bs [a, b])] w fun e w' => e = .returned (.int .i64 ((k + (Lib.cut (s.drop k) [a, b]).1.length : Nat) : Int)) ∧ w' = w := by
  have hz : (bs s).size = s.length := bs_size s
  have hz2 : (bs [a, b]).size = 2 := rfl
  have HX := Lib.hid (fun i t h => str_cut s i (i + t) (by omega) h)
  obtain ⟨R, hR⟩ : ∃ R, R = k + (Lib.cut (s.drop k) [a, b]).1.length := ⟨_, rfl⟩
  rw [← hR]
  have HR := Lib.hid hR; clear hR
  obtain ⟨S, hS⟩ : ∃ S, S = bs s := ⟨_, rfl⟩
  obtain ⟨T, hT⟩ : ∃ T, T = bs [a, b] := ⟨_, rfl⟩
  rw [← hS] at hz HX ⊢
  rw [← hT] at hz2 ⊢
  have HT := Lib.hid hT
  clear hS hT
  obtain ⟨n, hn⟩ : ∃ n, n = s.length := ⟨_, rfl⟩
  rw [← hn] at hz hl hk HX
  have Hn := Lib.hid hn; clear hn
  go_enter Tryd.func32, Tryd.ntmps32
  go_wp2_with fail
  go_loopw [7] (fun i wr => ∃ j : Nat, i = .int .i64 (j : Int) ∧ k ≤ j ∧ j ≤ n ∧ (∀ x, k ≤ x → x < j → (s.drop x).take 2 ≠ [a, b]) ∧ wr = w) (fun i _ => n - (intOf i).toNat)
  case atStart => exact ⟨k, rfl, Nat.le_refl _, hk, fun x h1 h2 => absurd h2 (by omega), rfl⟩
  case round =>
    obtain ⟨j, rfl, hkj, hj, hno, rfl⟩ := hrel
    have HN := Lib.hid hno; clear hno
    by_cases hjn : j + 2 ≤ n
    · have tj : decide ((j : Int) + 2 ≤ (n : Int)) = true := by rw [decide_eq_true_eq]; omega
      have hx : ∀ W, (Instr.slice 9 (.string S) (some (.int .i64 (j : Int))) (some (.int .i64 ((j : Int) + 2))) none).run Tryd.prog W = .ok (.string (bs ((s.take (j + 2)).drop j))) W := HX.out j 2 hjn
      rw [show (s.take (j + 2)).drop j = (s.drop j).take 2 from by rw [List.drop_take]; congr 1; omega] at hx
      by_cases hc : (s.drop j).take 2 = [a, b]
      · have hr : R = j := by
          rw [HR.out]
          have := cut_first a b (s.drop k) (j - k) (by rw [List.drop_drop, show k + (j - k) = j from by omega]; exact hc) (fun x hx => by rw [List.drop_drop]; exact HN.out (k + x) (by omega) (by omega))
          omega
        rw [hc, ← HT.out] at hx
        have te : (T.toList == T.toList) = true := beq_self_eq_true _
        have HRf := Lib.hid hr
        clear hr hc
        go_wp2_with fail
        go_ret
        exact ⟨by rw [HRf.out]; rfl, rfl⟩
      · obtain ⟨X, hX⟩ : ∃ X, X = bs ((s.drop j).take 2) := ⟨_, rfl⟩
        have te : (X.toList == T.toList) = false := by
          rw [beq_eq_false_iff_ne, hX, HT.out, bs_toList, bs_toList]; exact hc
        rw [← hX] at hx
        have HC := Lib.hid hc
        clear hX hc
        go_wp2_with fail
        refine ⟨⟨j + 1, by go_num, by omega, by omega, ?_, by first | exact rfl | exact trivial⟩, by simp [intOf]; omega⟩
        intro x h1 h2
        by_cases h : x < j
        · exact HN.out x h1 h
        · obtain rfl : x = j := by omega
          exact HC.out
    · have tj : decide ((j : Int) + 2 ≤ (n : Int)) = false := by rw [decide_eq_false_iff_not]; omega
      have hr : R = n := by
        rw [HR.out, cut_never a b (s.drop k) (fun x hx => by
          rw [List.length_drop, ← Hn.out] at hx
          rw [List.drop_drop]; exact HN.out (k + x) (by omega) (by omega))]
        show k + (s.drop k).length = n
        rw [List.length_drop, ← Hn.out]; omega
      have HRf := Lib.hid hr
      clear hr
      go_wp2_with fail
      go_ret
      exact ⟨by rw [HRf.out]; rfl, rfl⟩
end Go.Proofs.YthilkpjdfjjikaaDoor
