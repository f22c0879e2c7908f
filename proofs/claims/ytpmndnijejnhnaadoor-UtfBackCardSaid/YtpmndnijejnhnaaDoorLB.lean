/-
  The law UtfBack, walked.
-/
import Derived.Test.YtpmndnijejnhnaaDoorLJ
namespace Go.Proofs.YtpmndnijejnhnaaDoor
open Go.RowKit

theorem ba_inj {a b : ByteArray} (h : a.data.toList = b.data.toList) : a = b := by
  obtain ⟨⟨a⟩⟩ := a
  obtain ⟨⟨b⟩⟩ := b
  exact congrArg (fun x : List UInt8 => (⟨⟨x⟩⟩ : ByteArray)) h
set_option maxHeartbeats 8000000 in
set_option maxRecDepth 100000 in
theorem law10 (l : List UInt8) (n : Int) (w : World) (hT : Lib.Utf8Tabs 0 1 w) (hn0 : -9223372036854775808 ≤ n) (hn1 : n ≤ 9223372036854775807) :
    Calls Tryd.prog 10 #[.string ⟨l.toArray⟩, .int .i64 n] w fun e w' => e = .returned (.bool true) ∧ Below w.heap.size w w' := by
  have hsz : (⟨l.toArray⟩ : ByteArray).size = l.length := by simp [ByteArray.size]
  have H11 := Lib.hid (first_any w hT)
  have HT := Lib.hid hT; clear hT
  by_cases h : l.length ≤ 5000
  · have hP : Pts (fixedL l) := fixedL_pts l
    have hlP := fixedL_length l
    have C15 := fun W : World => upoints_any l W (by omega)
    have C25 : ∀ (W : World) (A : Option Addr) (c : Nat), Rd W W.heap.size 1 A (fixedL l).length (ints (fixedL l)) → Calls Tryd.prog 25 #[.slice A (fixedL l).length c] W fun e w' => e = .returned (.tuple #[.string (tx (fixedL l)), .int .i64 0]) ∧ Below W.heap.size W w' := by
      intro W A c hr
      have := make_any (fixedL l) A c W.heap.size W hr (Nat.le_refl _) (by omega)
      have ho : okL (fixedL l) = true := List.all_eq_true.2 hP
      unfold makeL makeE at this
      rw [if_pos ho, if_pos ho] at this
      exact this
    have C21 : ∀ W : World, Calls Tryd.prog 21 #[.string ⟨l.toArray⟩] W fun e w' => e = .returned (.string (tx (fixedL l))) ∧ Below W.heap.size W w' := fun W => repair_any l W (by omega)
    have C23 : ∀ W : World, Calls Tryd.prog 23 #[.string ⟨l.toArray⟩] W fun e w' => e = .returned (.string (tx ((fixedL l).filter xmlP))) ∧ Below W.heap.size W w' := fun W => plain_any l W (by omega)
    have C17 : ∀ W : World, Calls Tryd.prog 17 #[.string ⟨l.toArray⟩] W fun e w' => e = .returned (.string (tx (sqL (fixedL l)))) ∧ Below W.heap.size W w' := fun W => squeeze_any l W (by omega)
    have C19 : ∀ W : World, Calls Tryd.prog 19 #[.string ⟨l.toArray⟩, .int .i64 n] W fun e w' => e = .returned (.string (tx (cutP n (fixedL l)))) ∧ Below W.heap.size W w' := fun W => ucut_any l n W (by omega) hn0 hn1
    have C12 := fun (W : World) (hT : Lib.Utf8Tabs 0 1 W) => uvalid_any l W (by omega) hT
    have hV : validL l = decide (repairL l = l) := valid_iff l
    have lF := List.length_filter_le xmlP (fixedL l)
    have lQ := sq_length (fixedL l)
    have lK := cut_length n (fixedL l)
    have lK2 : (cutP n (fixedL l)).length ≤ (fixedL l).length := by
      unfold cutP
      split
      · exact Nat.zero_le _
      · split
        · rw [List.length_append, List.length_take, List.length_singleton]; omega
        · exact Nat.le_refl _
    have D21 := fun W : World => c_repair (fixedL l) hP (by omega) W
    have D23 := fun W : World => c_plain ((fixedL l).filter xmlP) (hP.filter xmlP) (by omega) W
    have eF : ((fixedL l).filter xmlP).filter xmlP = (fixedL l).filter xmlP := by rw [List.filter_filter]; simp
    rw [eF] at D23
    have D17 := fun W : World => c_squeeze (sqL (fixedL l)) hP.sq (by omega) W
    rw [sq_idem] at D17
    have D19 := fun W : World => c_cut (cutP n (fixedL l)) (hP.cut n) n hn0 hn1 (by omega) W
    rw [cut_idem] at D19
    have D15 := fun W : World => c_points (cutP n (fixedL l)) (hP.cut n) (by omega) W
    have E1 := fun (W : World) (hT : Lib.Utf8Tabs 0 1 W) => c_valid (fixedL l) hP (by omega) W hT
    have E2 := fun (W : World) (hT : Lib.Utf8Tabs 0 1 W) => c_valid ((fixedL l).filter xmlP) (hP.filter xmlP) (by omega) W hT
    have E3 := fun (W : World) (hT : Lib.Utf8Tabs 0 1 W) => c_valid (sqL (fixedL l)) hP.sq (by omega) W hT
    have E4 := fun (W : World) (hT : Lib.Utf8Tabs 0 1 W) => c_valid (cutP n (fixedL l)) (hP.cut n) (by omega) W hT
    have hVS : (validL l = true ∧ (⟨l.toArray⟩ : ByteArray) = tx (fixedL l)) ∨ (validL l = false ∧ ¬ tx (fixedL l) = (⟨l.toArray⟩ : ByteArray)) := by
      rw [hV]
      by_cases he : repairL l = l
      · refine .inl ⟨decide_eq_true he, ?_⟩
        unfold tx
        rw [show textL (fixedL l) = l from he]
      · refine .inr ⟨decide_eq_false he, fun e => he ?_⟩
        have := congrArg (fun b : ByteArray => b.data.toList) e
        exact this
    have t1 : decide ((l.length : Int) > 5000) = false := by rw [decide_eq_false_iff_not]; omega
    have t2 : decide (((cutP n (fixedL l)).length : Int) ≤ max n 0) = true := by rw [decide_eq_true_eq]; exact lK
    rw [← hsz] at t1
    obtain ⟨V, hVe⟩ : ∃ V, V = validL l := ⟨_, rfl⟩
    obtain ⟨S, hS⟩ : ∃ S, S = (⟨l.toArray⟩ : ByteArray) := ⟨_, rfl⟩
    rw [← hS] at t1 hVS ⊢
    simp only [← hS] at C15 C21 C23 C17 C19 C12
    rw [← hVe] at hVS
    simp only [← hVe] at C12
    clear hS hVe hV hsz lF lQ lK lK2 eF
    obtain ⟨P, hPe⟩ : ∃ P, P = fixedL l := ⟨_, rfl⟩
    simp only [← hPe] at C15 C25 C21 C23 C17 C19 D21 D23 D17 D19 D15 E1 E2 E3 E4 hVS t2 hP hlP
    clear hPe
    obtain ⟨FP, hFP⟩ : ∃ F, F = P.filter xmlP := ⟨_, rfl⟩
    simp only [← hFP] at C23 D23 E2
    obtain ⟨QP, hQP⟩ : ∃ F, F = sqL P := ⟨_, rfl⟩
    simp only [← hQP] at C17 D17 E3
    obtain ⟨KP, hKP⟩ : ∃ F, F = cutP n P := ⟨_, rfl⟩
    simp only [← hKP] at C19 D19 D15 E4 t2
    clear hFP hQP hKP
    have C15 := Lib.hid C15; have C25 := Lib.hid C25; have C21 := Lib.hid C21; have C23 := Lib.hid C23; have C17 := Lib.hid C17; have C19 := Lib.hid C19; have C12 := Lib.hid C12
    have D15 := Lib.hid D15; have D21 := Lib.hid D21; have D23 := Lib.hid D23; have D17 := Lib.hid D17; have D19 := Lib.hid D19
    have E1 := Lib.hid E1; have E2 := Lib.hid E2; have E3 := Lib.hid E3; have E4 := Lib.hid E4
    clear hP hlP
    obtain ⟨m, hm⟩ : ∃ m, m = KP.length := ⟨_, rfl⟩
    rw [← hm] at t2 D15
    clear hm
    rcases hVS with ⟨rfl, rfl⟩ | ⟨rfl, hne⟩
    · have hI := True.intro
      go_enter Tryd.func10, Tryd.ntmps10
      go_wp2_with fail
      refine H11.out.mono ?_
      rintro e w1 ⟨rfl, c1⟩
      clear H11
      have HC := Lib.hid (C15.out w1)
      go_wp2_with fail
      refine HC.out.mono ?_
      rintro e w2 ⟨v, rfl, o, b⟩
      obtain ⟨A0, q0, rfl, hq0, _⟩ := own_form o
      have Hr := Lib.hid (Rd.of_own o)
      clear o
      have c2 := c1.trans (b.mono c1.size)
      clear HC b c1
      have HC := Lib.hid (C25.out w2 A0 q0 Hr.out)
      go_wp2_with fail
      refine HC.out.mono ?_
      rintro e w3 ⟨rfl, b⟩
      have c3 := c2.trans (b.mono c2.size)
      clear HC b c2
      have HC := Lib.hid (C21.out w3)
      go_wp2_with fail
      refine HC.out.mono ?_
      rintro e w4 ⟨rfl, b⟩
      have c4 := c3.trans (b.mono c3.size)
      clear HC b c3
      have HC := Lib.hid (C23.out w4)
      go_wp2_with fail
      refine HC.out.mono ?_
      rintro e w5 ⟨rfl, b⟩
      have c5 := c4.trans (b.mono c4.size)
      clear HC b c4
      have HC := Lib.hid (C17.out w5)
      go_wp2_with fail
      refine HC.out.mono ?_
      rintro e w6 ⟨rfl, b⟩
      have c6 := c5.trans (b.mono c5.size)
      clear HC b c5
      have HC := Lib.hid (C19.out w6)
      go_wp2_with fail
      refine HC.out.mono ?_
      rintro e w7 ⟨rfl, b⟩
      have c7 := c6.trans (b.mono c6.size)
      clear HC b c6
      have HC := Lib.hid (C12.out w7 (tabs_below HT.out c7))
      go_wp2_with fail
      refine HC.out.mono ?_
      rintro e w8 ⟨rfl, b⟩
      have c8 := c7.trans (b.mono c7.size)
      clear HC b c7
      have HC := Lib.hid (D21.out w8)
      go_wp2_with fail
      refine HC.out.mono ?_
      rintro e w9 ⟨rfl, b⟩
      have c9 := c8.trans (b.mono c8.size)
      clear HC b c8
      have HC := Lib.hid (D23.out w9)
      go_wp2_with fail
      refine HC.out.mono ?_
      rintro e w10 ⟨rfl, b⟩
      have c10 := c9.trans (b.mono c9.size)
      clear HC b c9
      have HC := Lib.hid (D17.out w10)
      go_wp2_with fail
      refine HC.out.mono ?_
      rintro e w11 ⟨rfl, b⟩
      have c11 := c10.trans (b.mono c10.size)
      clear HC b c10
      have HC := Lib.hid (D19.out w11)
      go_wp2_with fail
      refine HC.out.mono ?_
      rintro e w12 ⟨rfl, b⟩
      have c12 := c11.trans (b.mono c11.size)
      clear HC b c11
      have HC := Lib.hid (D15.out w12)
      go_wp2_with fail
      refine HC.out.mono ?_
      rintro e w13 ⟨v, rfl, o, b⟩
      obtain ⟨A9, q9, rfl, hq9, _⟩ := own_form o
      clear o
      have c13 := c12.trans (b.mono c12.size)
      clear HC b c12
      have HC := Lib.hid (E1.out w13 (tabs_below HT.out c13))
      go_wp2_with fail
      refine HC.out.mono ?_
      rintro e w14 ⟨rfl, b⟩
      have c14 := c13.trans (b.mono c13.size)
      clear HC b c13
      have HC := Lib.hid (E2.out w14 (tabs_below HT.out c14))
      go_wp2_with fail
      refine HC.out.mono ?_
      rintro e w15 ⟨rfl, b⟩
      have c15 := c14.trans (b.mono c14.size)
      clear HC b c14
      have HC := Lib.hid (E3.out w15 (tabs_below HT.out c15))
      go_wp2_with fail
      refine HC.out.mono ?_
      rintro e w16 ⟨rfl, b⟩
      have c16 := c15.trans (b.mono c15.size)
      clear HC b c15
      have HC := Lib.hid (E4.out w16 (tabs_below HT.out c16))
      go_wp2_with fail
      refine HC.out.mono ?_
      rintro e w17 ⟨rfl, b⟩
      have c17 := c16.trans (b.mono c16.size)
      clear HC b c16
      go_wp2_with fail
      go_ret
      exact ⟨by first | rfl | simp, c17⟩
    · have hne2 : ((tx P).toList == S.toList) = false := by
        rw [beq_eq_false_iff_ne]; intro e; rw [ByteArray.toList_eq, ByteArray.toList_eq] at e
        exact hne (ba_inj e)
      go_enter Tryd.func10, Tryd.ntmps10
      go_wp2_with fail
      refine H11.out.mono ?_
      rintro e w1 ⟨rfl, c1⟩
      clear H11
      have HC := Lib.hid (C15.out w1)
      go_wp2_with fail
      refine HC.out.mono ?_
      rintro e w2 ⟨v, rfl, o, b⟩
      obtain ⟨A0, q0, rfl, hq0, _⟩ := own_form o
      have Hr := Lib.hid (Rd.of_own o)
      clear o
      have c2 := c1.trans (b.mono c1.size)
      clear HC b c1
      have HC := Lib.hid (C25.out w2 A0 q0 Hr.out)
      go_wp2_with fail
      refine HC.out.mono ?_
      rintro e w3 ⟨rfl, b⟩
      have c3 := c2.trans (b.mono c2.size)
      clear HC b c2
      have HC := Lib.hid (C21.out w3)
      go_wp2_with fail
      refine HC.out.mono ?_
      rintro e w4 ⟨rfl, b⟩
      have c4 := c3.trans (b.mono c3.size)
      clear HC b c3
      have HC := Lib.hid (C23.out w4)
      go_wp2_with fail
      refine HC.out.mono ?_
      rintro e w5 ⟨rfl, b⟩
      have c5 := c4.trans (b.mono c4.size)
      clear HC b c4
      have HC := Lib.hid (C17.out w5)
      go_wp2_with fail
      refine HC.out.mono ?_
      rintro e w6 ⟨rfl, b⟩
      have c6 := c5.trans (b.mono c5.size)
      clear HC b c5
      have HC := Lib.hid (C19.out w6)
      go_wp2_with fail
      refine HC.out.mono ?_
      rintro e w7 ⟨rfl, b⟩
      have c7 := c6.trans (b.mono c6.size)
      clear HC b c6
      have HC := Lib.hid (C12.out w7 (tabs_below HT.out c7))
      go_wp2_with fail
      refine HC.out.mono ?_
      rintro e w8 ⟨rfl, b⟩
      have c8 := c7.trans (b.mono c7.size)
      clear HC b c7
      have HC := Lib.hid (D21.out w8)
      go_wp2_with fail
      refine HC.out.mono ?_
      rintro e w9 ⟨rfl, b⟩
      have c9 := c8.trans (b.mono c8.size)
      clear HC b c8
      have HC := Lib.hid (D23.out w9)
      go_wp2_with fail
      refine HC.out.mono ?_
      rintro e w10 ⟨rfl, b⟩
      have c10 := c9.trans (b.mono c9.size)
      clear HC b c9
      have HC := Lib.hid (D17.out w10)
      go_wp2_with fail
      refine HC.out.mono ?_
      rintro e w11 ⟨rfl, b⟩
      have c11 := c10.trans (b.mono c10.size)
      clear HC b c10
      have HC := Lib.hid (D19.out w11)
      go_wp2_with fail
      refine HC.out.mono ?_
      rintro e w12 ⟨rfl, b⟩
      have c12 := c11.trans (b.mono c11.size)
      clear HC b c11
      have HC := Lib.hid (D15.out w12)
      go_wp2_with fail
      refine HC.out.mono ?_
      rintro e w13 ⟨v, rfl, o, b⟩
      obtain ⟨A9, q9, rfl, hq9, _⟩ := own_form o
      clear o
      have c13 := c12.trans (b.mono c12.size)
      clear HC b c12
      have HC := Lib.hid (E1.out w13 (tabs_below HT.out c13))
      go_wp2_with fail
      refine HC.out.mono ?_
      rintro e w14 ⟨rfl, b⟩
      have c14 := c13.trans (b.mono c13.size)
      clear HC b c13
      have HC := Lib.hid (E2.out w14 (tabs_below HT.out c14))
      go_wp2_with fail
      refine HC.out.mono ?_
      rintro e w15 ⟨rfl, b⟩
      have c15 := c14.trans (b.mono c14.size)
      clear HC b c14
      have HC := Lib.hid (E3.out w15 (tabs_below HT.out c15))
      go_wp2_with fail
      refine HC.out.mono ?_
      rintro e w16 ⟨rfl, b⟩
      have c16 := c15.trans (b.mono c15.size)
      clear HC b c15
      have HC := Lib.hid (E4.out w16 (tabs_below HT.out c16))
      go_wp2_with fail
      refine HC.out.mono ?_
      rintro e w17 ⟨rfl, b⟩
      have c17 := c16.trans (b.mono c16.size)
      clear HC b c16
      go_wp2_with fail
      go_ret
      exact ⟨by first | rfl | simp, c17⟩
  · have t1 : decide ((l.length : Int) > 5000) = true := by rw [decide_eq_true_eq]; omega
    rw [← hsz] at t1
    obtain ⟨S, hS⟩ : ∃ S, S = (⟨l.toArray⟩ : ByteArray) := ⟨_, rfl⟩
    rw [← hS] at t1 ⊢
    clear hS hsz
    go_enter Tryd.func10, Tryd.ntmps10
    go_wp2_with fail
    refine H11.out.mono ?_
    rintro e w1 ⟨rfl, b1⟩
    go_wp2_with fail
    go_ret
    exact ⟨rfl, b1⟩
end Go.Proofs.YtpmndnijejnhnaaDoor
