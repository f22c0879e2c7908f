/-
  The document's normal.
-/
import Derived.Test.YtcpkkaimingnlaaGreatDoorLpc
import Derived.Test.YtcpkkaimingnlaaGreatDoorMG
import Derived.Test.YtcpkkaimingnlaaGreatDoorMI
set_option linter.unusedVariables false
set_option linter.unusedSimpArgs false
namespace Go.Proofs.YtcpkkaimingnlaaGreatDoor
open Go.RowKit

theorem pctA_one (c : UInt8) : pctA [c] = pctR c := by unfold pctA; simp
set_option maxHeartbeats 8000000 in
set_option maxRecDepth 100000 in
theorem rnormal_any (s : Bs) (w : World) (hl : s.length ≤ 900000) :
    Calls Tryz.prog 62 #[.string (bs s)] w fun e w' => e = .returned (.string (bs (normP s))) ∧ Below w.heap.size w w' := by
  have hz : (bs s).size = s.length := bs_size s
  have HX := Lib.hid (fun (i : Nat) (h : i < s.length) (w : World) => str_byte s i h w)
  have HF := Lib.hid (fun (i : Nat) (h : i ≤ s.length) (w : World) => str_from s i h w)
  have HC := Lib.hid (fun (a b : Nat) (h : a ≤ b) (hb : b ≤ s.length) (w : World) => str_cut s a b h hb w)
  have H50 : Hid (∀ (i : Nat) (W : World), Calls Tryz.prog 50 #[.string (bs (s.drop i)), .int .i64 16, .int .i64 2] W fun e w' => e = .returned (.tuple #[.int .i64 (((numR 16 2 (s.drop i)).1 : Nat) : Int), .int .i64 (((numR 16 2 (s.drop i)).2 : Nat) : Int)]) ∧ Below W.heap.size W w') := Lib.hid (fun i W => number_any (s.drop i) 16 2 (.inr ⟨rfl, rfl⟩) W (by rw [List.length_drop]; omega))
  obtain ⟨N, hN⟩ : ∃ N, N = normP s := ⟨_, rfl⟩
  rw [← hN]
  obtain ⟨S, hS⟩ : ∃ S, S = bs s := ⟨_, rfl⟩
  rw [← hS] at hz ⊢
  simp only [← hS] at HX HF HC
  obtain ⟨n, hn⟩ : ∃ n, n = s.length := ⟨_, rfl⟩
  rw [← hn] at hz hl
  have HN := Lib.hid hN; have Hn := Lib.hid hn
  clear hN hS hn
  go_enter Tryz.func62, Tryz.ntmps62
  go_wp2_with fail
  go_loopw [3, 4] (fun o i wr => ∃ (j : Nat) (O : Bs), i = .int .i64 (j : Int) ∧ o = .string (bs O) ∧ j ≤ n ∧ O.length ≤ j ∧ Hid (N = O ++ normP (s.drop j)) ∧ Hid (Below w.heap.size w wr)) (fun _ i _ => n - (intOf i).toNat)
  case atStart => exact ⟨0, [], rfl, rfl, Nat.zero_le _, Nat.le_refl _, Lib.hid HN.out, Lib.hid (Below.refl _ _)⟩
  case round =>
    obtain ⟨j, O, rfl, rfl, hj, hO, HNj, HB⟩ := hrel
    have zO : (bs O).size ≤ 900000 := by rw [bs_size]; omega
    by_cases hjn : j < n
    · have tj : decide ((j : Int) < (n : Int)) = true := by rw [decide_eq_true_eq]; omega
      have hjl : j < s.length := by rw [← Hn.out]; exact hjn
      have hx := fun W => HX.out j hjl W
      have hd : s.drop j = s.getD j 0 :: s.drop (j + 1) := by rw [List.drop_eq_getElem_cons hjl]; simp [hjl]
      have hone : ∀ W, (Instr.slice 9 (.string S) (some (.int .i64 (j : Int))) (some (.int .i64 ((j : Int) + 1))) none).run Tryz.prog W = .ok (.string (bs [s.getD j 0])) W := fun W => (HC.out j (j + 1) (by omega) (by omega) W).trans (by
        rw [List.drop_take, hd, show j + 1 - j = 1 by omega]; rfl)
      obtain ⟨c, hc⟩ : ∃ c, c = s.getD j 0 := ⟨_, rfl⟩
      rw [← hc] at hd
      simp only [← hc] at hx hone
      have hmiss : ¬ (c = 37 ∧ hex2 (s.drop (j + 1)) = true) → N = (O ++ [c]) ++ normP (s.drop (j + 1)) := by
        intro h
        rw [HNj.out, hd, normP_miss c _ h]; simp
      have z1 : (bs [c]).size = 1 := bs_size [c]
      have zz : ¬ 9223372036854775807 < (bs O).size + 1 := by omega
      have q37 : (((c.toNat : Nat) : Int) == 37) = (c == 37) := u8_beq c 37 37 rfl
      have hfin := Lib.hid (show (bs (O ++ [c])) = bs O ++ bs [c] by rw [bs_cat])
      cases h37 : (c == 37) with
      | false =>
        rw [h37] at q37
        have hN2 := Lib.hid (hmiss (by rintro ⟨rfl, _⟩; cases h37))
        generalize ((c.toNat : Nat) : Int) = y at *
        clear h37 hc hd hmiss hjl
        go_wp2_with fail
        exact ⟨⟨j + 1, O ++ [c], by go_num, by rw [hfin.out], by omega, by simp; omega, hN2, HB⟩, by simp [intOf]; omega⟩
      | true =>
        rw [h37] at q37
        have hc37 : c = 37 := beq_iff_eq.1 h37
        have hf : ∀ W, (Instr.slice 9 (.string S) (some (.int .i64 ((j : Int) + 1))) none none).run Tryz.prog W = .ok (.string (bs (s.drop (j + 1)))) W := fun W => HF.out (j + 1) hjl W
        have h50 := Lib.hid (fun W => H50.out (j + 1) W)
        obtain ⟨hk, hv⟩ := numR_hex (s.drop (j + 1))
        cases hh : hex2 (s.drop (j + 1)) with
        | false =>
          have hN2 := Lib.hid (hmiss (by rw [hh]; simp))
          rw [hh] at hk
          generalize bs (s.drop (j + 1)) = T at *
          generalize (numR 16 2 (s.drop (j + 1))).1 = p at *
          generalize (numR 16 2 (s.drop (j + 1))).2 = k at *
          have t2 : decide ((k : Int) < 2) = true := decide_eq_true (by have := of_decide_eq_true hk; omega)
          generalize ((c.toNat : Nat) : Int) = y at *
          clear hh h37 hc hd hmiss hjl hc37 hk hv
          go_wp2_with (go_at_call 50; refine (h50.out _).mono ?_; rintro e w1 ⟨rfl, hb1⟩; have HB1 := Lib.hid (below_then HB.out hb1); clear hb1)
          exact ⟨⟨j + 1, O ++ [c], by go_num, by rw [hfin.out], by omega, by simp; omega, hN2, HB1⟩, by simp [intOf]; omega⟩
        | true =>
          obtain ⟨a, b, t, hr, hp, hk2⟩ := hv hh
          obtain ⟨ha, hb⟩ : hexB a = true ∧ hexB b = true := by
            have := hh
            rw [hr, hex2_cons, Bool.and_eq_true] at this
            exact this
          have hlt3 : j + 3 ≤ n := by
            have := congrArg List.length hr
            rw [List.length_drop, ← Hn.out] at this
            simp only [List.length_cons] at this
            omega
          have htd : t = s.drop (j + 3) := by
            have := congrArg (List.drop 2) hr
            rw [List.drop_drop] at this
            rw [show j + 3 = j + 1 + 2 from rfl, this]; rfl
          have hN2 : N = (O ++ pctT a b) ++ normP (s.drop (j + 3)) := by
            rw [HNj.out, hd, hr, normP_cons, if_pos ⟨hc37, by rw [← hr]; exact hh⟩, htd, List.append_assoc]
          rw [← pct_nat ha hb] at hp
          have hpc := Lib.hid (fun W => percent_any [pctN a b] W (by simp))
          rw [pctA_one, pct_doc ha hb] at hpc
          have hpl : (pctT a b).length ≤ 3 := by unfold pctT; split <;> simp
          have zp : (bs (pctT a b)).size ≤ 3 := by rw [bs_size]; exact hpl
          have hfin2 := Lib.hid (show (bs (O ++ pctT a b)) = bs O ++ bs (pctT a b) by rw [bs_cat])
          rw [hp, hk2] at h50
          have hm8 := (pctN a b).toNat_lt
          obtain ⟨m, hm⟩ : ∃ m, m = pctN a b := ⟨_, rfl⟩
          rw [← hm] at h50 hpc hm8
          have hcv := fun W => conv_byte W ((m.toNat : Nat) : Int) m rfl
          obtain ⟨PT, hPT⟩ : ∃ PT, PT = pctT a b := ⟨_, rfl⟩
          rw [← hPT] at hN2 hpc hpl zp hfin2
          have HN2 := Lib.hid hN2
          have v1 : IntKind.u8.wrap ((m.toNat : Nat) : Int) = ((m.toNat : Nat) : Int) := IntWalk.u8_in _ (by omega)
          generalize bs (s.drop (j + 1)) = T at *
          have h50 : Hid (∀ W, Calls Tryz.prog 50 #[.string T, .int .i64 16, .int .i64 2] W fun e w' => e = .returned (.tuple #[.int .i64 ((m.toNat : Nat) : Int), .int .i64 2]) ∧ Below W.heap.size W w') := h50
          generalize ((c.toNat : Nat) : Int) = y at *
          clear hh h37 hc hd hmiss hjl hc37 hk hv hr hp hk2 ha hb htd hN2 hm hPT zz hfin hone z1
          go_wp2_with (first | (go_at_call 50; refine (h50.out _).mono ?_; rintro e w1 ⟨rfl, hb1⟩; have HB1 := Lib.hid (below_then HB.out hb1); have hcv1 := hcv w1; clear hb1) | (go_at_call 93; refine (hpc.out _).mono ?_; rintro e w2 ⟨rfl, hb1⟩; have HB2 := Lib.hid (below_then (below_then HB1.out (below_one w1 _)) hb1); clear hb1))
          exact ⟨⟨j + 3, O ++ PT, by go_num, by rw [hfin2.out], by omega, by simp; omega, HN2, HB2⟩, by simp [intOf]; omega⟩
    · have hjn' : j = n := by omega
      have tj : decide ((j : Int) < (n : Int)) = false := by rw [decide_eq_false_iff_not]; omega
      have hNO : N = O := by
        rw [HNj.out, hjn', Hn.out, List.drop_length]
        show O ++ [] = O
        simp
      have HNO := Lib.hid hNO
      clear hNO hjn'
      go_wp2_with fail
      go_ret
      exact ⟨by rw [HNO.out]; rfl, HB.out⟩
end Go.Proofs.YtcpkkaimingnlaaGreatDoor
