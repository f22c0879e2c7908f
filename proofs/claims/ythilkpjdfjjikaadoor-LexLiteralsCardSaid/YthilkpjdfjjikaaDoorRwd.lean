/-
  The document's words, walked.
-/
import Derived.Test.YthilkpjdfjjikaaDoorRwo
namespace Go.Proofs.YthilkpjdfjjikaaDoor
open Go.RowKit

theorem sep_one (x : UInt8) : ([32, 9, 10, 13] : Bs).contains x = sepB x := by
  unfold sepB sepN
  have h : ∀ k : UInt8, (x == k) = (x.toNat == k.toNat) := by
    intro k
    rw [Bool.eq_iff_iff, beq_iff_eq, beq_iff_eq]
    exact UInt8.toNat_inj.symm
  simp only [List.contains_cons, List.contains_nil, Bool.or_false]
  rw [h 32, h 9, h 10, h 13, ← Bool.or_assoc, ← Bool.or_assoc]
  rfl
theorem cur_ne (s : Bs) (a j : Nat) (h : a < j) (hj : j ≤ s.length) : (s.take j).drop a ≠ [] := by
  intro e
  have := congrArg List.length e
  rw [List.length_drop, List.length_take] at this
  simp at this
  omega
set_option maxHeartbeats 4000000 in
set_option maxRecDepth 100000 in
theorem wordsR_any (s : Bs) (w : World) (hl : s.length ≤ 900000) :
    Calls Tryd.prog 57 #[.string (bs s)] w fun e w' => ∃ v, e = .returned v ∧ w'.ownsRow w.heap.size 9 1 v (wordsL s).length (strs (wordsL s)) ∧ (wordsL s).length ≤ s.length + 1 ∧ Below w.heap.size w w' := by
  have hz : (bs s).size = s.length := bs_size s
  have HX := Lib.hid (fun i h w => str_byte s i h w)
  have HU := Lib.hid (fun a b h h' w => str_cut s a b h h' w)
  have H53 : Hid (∀ (c : UInt8) (w : World), Calls Tryd.prog 53 #[.int .u8 ((c.toNat : Nat) : Int), .string ⟨#[32, 9, 10, 13]⟩] w fun e w' => e = .returned (.bool (sepB c)) ∧ w' = w) := by
    intro c w
    rw [← sep_one]
    exact one_any c [32, 9, 10, 13] w (by decide)
  obtain ⟨R, hR⟩ : ∃ R, R = wordsL s := ⟨_, rfl⟩
  rw [← hR]
  rw [words_eq] at hR
  have HR := Lib.hid hR; clear hR
  obtain ⟨S, hS⟩ : ∃ S, S = bs s := ⟨_, rfl⟩
  rw [← hS] at hz HX HU ⊢
  clear hS
  obtain ⟨n, hn⟩ : ∃ n, n = s.length := ⟨_, rfl⟩
  rw [← hn] at hz hl HX HU ⊢
  have Hn := Lib.hid hn; clear hn
  go_enter Tryd.func57, Tryd.ntmps57
  go_wp2_with fail
  go_loopw [3, 4, 5] (fun v at_ i wr => ∃ (j : Nat) (out : List Bs) (cur : Bs), i = .int .i64 (j : Int) ∧ out.length ≤ j ∧ wr.ownsRow w.heap.size 9 1 v out.length (strs out) ∧ Below w.heap.size w wr ∧
      ((j ≤ n ∧ R = out ++ wGo cur (s.drop j)) ∨ (j = n + 1 ∧ R = out)) ∧ ((at_ = .int .i64 (-1) ∧ cur = []) ∨ (∃ a : Nat, at_ = .int .i64 (a : Int) ∧ a < j ∧ j ≤ n ∧ cur = (s.take j).drop a)))
    (fun _ _ i _ => n + 1 - (intOf i).toNat)
  case atStart =>
    exact ⟨0, [], [], rfl, Nat.le_refl _, World.ownsRow_nil _ _ _ _, Below.refl _ _, .inl ⟨Nat.zero_le _, HR.out⟩, .inl ⟨rfl, rfl⟩⟩
  case round =>
    obtain ⟨j, out, cur, rfl, hol, hown, hB, hcase, hat⟩ := hrel
    obtain ⟨A0, c0, rfl, hc0, _⟩ := own_form hown
    have HO := Lib.hid hown; have HB := Lib.hid hB
    have hsw := hB.size
    clear hown hB
    rcases hcase with ⟨hjn, hRe⟩ | ⟨rfl, hRe⟩
    · have tj : decide ((j : Int) ≤ (n : Int)) = true := by rw [decide_eq_true_eq]; omega
      have HRE := Lib.hid hRe; clear hRe
      by_cases hje : j = n
      · have te : ((j : Int) == (n : Int)) = true := by rw [hje]; exact beq_self_eq_true _
        have hdn : s.drop j = [] := List.drop_of_length_le (by rw [hje, Hn.out]; exact Nat.le_refl _)
        have HJ := Lib.hid hje
        rcases hat with ⟨rfl, rfl⟩ | ⟨a, rfl, haj, hjn2, rfl⟩
        · have hRf : R = out := by rw [HRE.out, hdn]; show out ++ [] = out; rw [List.append_nil]
          have HRF := Lib.hid hRf
          clear hRf hje hdn
          go_wp2_with fail
          exact ⟨⟨j + 1, out, [], by go_num, by omega, HO.out, HB.out, .inr ⟨by rw [HJ.out], HRF.out⟩, .inl ⟨rfl, rfl⟩⟩, by simp [intOf]; omega⟩
        · have tg : decide ((a : Int) ≥ 0) = true := by rw [decide_eq_true_eq]; omega
          have hcut := fun W => HU.out a j (by omega) hjn W
          have hne := cur_ne s a j haj (by rw [← Hn.out]; exact hjn)
          have hRf : R = out ++ [(s.take j).drop a] := by rw [HRE.out, hdn, wGo, if_neg hne]
          have HRF := Lib.hid hRf
          generalize hXg : bs ((s.take j).drop a) = X at hcut
          have HXg := Lib.hid hXg
          have hol2 : out.length ≤ 1000000 := by omega
          clear hRf hje hXg hdn hne
          go_wp2_with (at_builtin; refine wpList_pushG rfl (.tmp 24) (.tmp 29) 32 rfl w.heap.size 9 (.string ⟨#[]⟩) 1 16 Tryd.underlying32 (by kernel_rfl) rfl (by decide) (.slice A0 out.length c0) out.length _ rfl HO.out #[.string X] 1 (by decide) rfl rfl (by simp [Value.oneCell']) (by omega) (by omega) hsw ?_; intro g4 cap4 w4 hown4 hg4 hb4 hgr4; have HO4 := Lib.hid hown4; have HB4 := Lib.hid hb4; clear hown4 hb4 hgr4)
          refine ⟨⟨j + 1, out ++ [(s.take j).drop a], [], by go_num, by rw [List.length_append, List.length_singleton]; omega, ?_, HB.out.trans HB4.out, .inr ⟨by rw [HJ.out], HRF.out⟩, .inl ⟨rfl, rfl⟩⟩, by simp [intOf]; omega⟩
          rw [List.length_append, List.length_singleton, strs_snoc, HXg.out]
          exact HO4.out
      · have te : ((j : Int) == (n : Int)) = false := by rw [beq_eq_false_iff_ne]; omega
        have hjn' : j < n := by omega
        have hx := fun W => HX.out j hjn' W
        have hdr := drop_getD s j (by rw [← Hn.out]; exact hjn')
        have HC := Lib.hid (H53.out (s.getD j 0))
        have htd := fun a (h : a ≤ j) => take_drop_snoc s a j h (by rw [← Hn.out]; exact hjn')
        generalize s.getD j 0 = x at hx hdr HC htd
        cases hsp : sepB x with
        | true =>
          rw [hsp] at HC
          rcases hat with ⟨rfl, rfl⟩ | ⟨a, rfl, haj, hjn2, rfl⟩
          · have hRf : R = out ++ wGo [] (s.drop (j + 1)) := by rw [HRE.out, hdr, wGo, if_pos hsp, if_pos rfl]
            have HRF := Lib.hid hRf
            generalize x.toNat = y at hx HC
            clear hRf hdr htd hsp
            go_wp2_with (go_at_call 53; refine (HC.out _).mono ?_; rintro e w4 ⟨rfl, hw4⟩; replace hw4 := hw4.symm; subst hw4)
            exact ⟨⟨j + 1, out, [], by go_num, by omega, HO.out, HB.out, .inl ⟨by omega, HRF.out⟩, .inl ⟨rfl, rfl⟩⟩, by simp [intOf]; omega⟩
          · have tg : decide ((a : Int) ≥ 0) = true := by rw [decide_eq_true_eq]; omega
            have hcut := fun W => HU.out a j (by omega) hjn W
            have hne := cur_ne s a j haj (by rw [← Hn.out]; exact hjn)
            have hRf : R = (out ++ [(s.take j).drop a]) ++ wGo [] (s.drop (j + 1)) := by rw [HRE.out, hdr, wGo, if_pos hsp, if_neg hne, List.append_assoc]; rfl
            have HRF := Lib.hid hRf
            generalize x.toNat = y at hx HC
            generalize hXg : bs ((s.take j).drop a) = X at hcut
            have HXg := Lib.hid hXg
            have hol2 : out.length ≤ 1000000 := by omega
            clear hRf hdr htd hsp hXg hne
            go_wp2_with (first | (go_at_call 53; refine (HC.out _).mono ?_; rintro e w4 ⟨rfl, hw4⟩; replace hw4 := hw4.symm; subst hw4) | (at_builtin; refine wpList_pushG rfl (.tmp 24) (.tmp 29) 32 rfl w.heap.size 9 (.string ⟨#[]⟩) 1 16 Tryd.underlying32 (by kernel_rfl) rfl (by decide) (.slice A0 out.length c0) out.length _ rfl HO.out #[.string X] 1 (by decide) rfl rfl (by simp [Value.oneCell']) (by omega) (by omega) hsw ?_; intro g4 cap4 w4 hown4 hg4 hb4 hgr4; have HO4 := Lib.hid hown4; have HB4 := Lib.hid hb4; clear hown4 hb4 hgr4))
            refine ⟨⟨j + 1, out ++ [(s.take j).drop a], [], by go_num, by rw [List.length_append, List.length_singleton]; omega, ?_, HB.out.trans HB4.out, .inl ⟨by omega, HRF.out⟩, .inl ⟨rfl, rfl⟩⟩, by simp [intOf]; omega⟩
            rw [List.length_append, List.length_singleton, strs_snoc, HXg.out]
            exact HO4.out
        | false =>
          rw [hsp] at HC
          rcases hat with ⟨rfl, rfl⟩ | ⟨a, rfl, haj, hjn2, rfl⟩
          · have hRf : R = out ++ wGo ((s.take (j + 1)).drop j) (s.drop (j + 1)) := by
              rw [HRE.out, hdr, wGo, if_neg (by rw [hsp]; decide), htd j (Nat.le_refl _), show (s.take j).drop j = [] from List.drop_of_length_le (by rw [List.length_take]; omega)]
            have HRF := Lib.hid hRf
            generalize x.toNat = y at hx HC
            clear hRf hdr htd hsp
            go_wp2_with (go_at_call 53; refine (HC.out _).mono ?_; rintro e w4 ⟨rfl, hw4⟩; replace hw4 := hw4.symm; subst hw4)
            exact ⟨⟨j + 1, out, _, by go_num, by omega, HO.out, HB.out, .inl ⟨by omega, HRF.out⟩, .inr ⟨j, rfl, by omega, by omega, rfl⟩⟩, by simp [intOf]; omega⟩
          · have tg : decide ((a : Int) < 0) = false := by rw [decide_eq_false_iff_not]; omega
            have hRf : R = out ++ wGo ((s.take (j + 1)).drop a) (s.drop (j + 1)) := by
              rw [HRE.out, hdr, wGo, if_neg (by rw [hsp]; decide), htd a (by omega)]
            have HRF := Lib.hid hRf
            generalize x.toNat = y at hx HC
            clear hRf hdr htd hsp
            go_wp2_with (go_at_call 53; refine (HC.out _).mono ?_; rintro e w4 ⟨rfl, hw4⟩; replace hw4 := hw4.symm; subst hw4)
            exact ⟨⟨j + 1, out, _, by go_num, by omega, HO.out, HB.out, .inl ⟨by omega, HRF.out⟩, .inr ⟨a, rfl, by omega, by omega, rfl⟩⟩, by simp [intOf]; omega⟩
    · have tj : decide (((n + 1 : Nat) : Int) ≤ (n : Int)) = false := by rw [decide_eq_false_iff_not]; omega
      subst hRe
      clear hat
      go_wp2_with fail
      go_ret
      exact ⟨_, rfl, HO.out, hol, HB.out⟩
end Go.Proofs.YthilkpjdfjjikaaDoor
