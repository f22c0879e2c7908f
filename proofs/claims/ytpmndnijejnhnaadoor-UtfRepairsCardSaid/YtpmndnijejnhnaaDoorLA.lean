/-
  The laws UtfValid, UtfPoints, UtfSqueezes, UtfCuts, UtfRepairs, walked.
-/
import Derived.Test.YtpmndnijejnhnaaDoorFst
import Derived.Test.YtpmndnijejnhnaaDoorRSq
import Derived.Test.YtpmndnijejnhnaaDoorRPl
namespace Go.Proofs.YtpmndnijejnhnaaDoor
open Go.RowKit

set_option maxHeartbeats 4000000 in
set_option maxRecDepth 100000 in
theorem law3 (l : List UInt8) (w : World) (hT : Lib.Utf8Tabs 0 1 w) :
    Calls Tryd.prog 3 #[.string ⟨l.toArray⟩] w fun e w' => e = .returned (.bool true) ∧ Below w.heap.size w w' := by
  have hsz : (⟨l.toArray⟩ : ByteArray).size = l.length := by simp [ByteArray.size]
  have H11 := Lib.hid (first_any w hT)
  have HT := Lib.hid hT; clear hT
  have C12 := fun (W : World) (h : l.length ≤ 5000) => fun hT => uvalid_any l W (by omega) hT
  have C13 := fun (W : World) (h : l.length ≤ 5000) => (show Calls Tryd.prog 13 #[.string ⟨l.toArray⟩] W fun e w' => e = .returned (.bool (validL l)) ∧ Below W.heap.size W w' from valid_any l W (by omega))
  obtain ⟨S, hS⟩ : ∃ S, S = (⟨l.toArray⟩ : ByteArray) := ⟨_, rfl⟩
  rw [← hS] at hsz ⊢
  simp only [← hS] at C12 C13
  clear hS
  by_cases h : l.length ≤ 5000
  · have t1 : decide ((S.size : Int) > 5000) = false := by rw [decide_eq_false_iff_not]; omega
    have C12 := Lib.hid C12
    have C13 := Lib.hid C13
    go_enter Tryd.func3, Tryd.ntmps3
    go_wp2_with fail
    refine H11.out.mono ?_
    rintro e w1 ⟨rfl, b1⟩
    have hs1 := b1.size
    have hT1 := Lib.hid (tabs_below HT.out b1)
    clear H11
    have HC1 := Lib.hid (C12.out w1 h hT1.out)
    go_wp2_with fail
    refine HC1.out.mono ?_
    rintro e w2 ⟨rfl, b2⟩
    have hs2 := b2.size
    clear HC1
    have HC2 := Lib.hid (C13.out w2 h)
    go_wp2_with fail
    refine HC2.out.mono ?_
    rintro e w3 ⟨rfl, b3⟩
    have hs3 := b3.size
    clear HC2
    go_wp2_with fail
    go_ret
    exact ⟨by simp, b1.trans ((b2.trans ((b3).mono hs2)).mono hs1)⟩
  · have t1 : decide ((S.size : Int) > 5000) = true := by rw [decide_eq_true_eq]; omega
    go_enter Tryd.func3, Tryd.ntmps3
    go_wp2_with fail
    refine H11.out.mono ?_
    rintro e w1 ⟨rfl, b1⟩
    go_wp2_with fail
    go_ret
    exact ⟨rfl, b1⟩

set_option maxHeartbeats 4000000 in
set_option maxRecDepth 100000 in
theorem law5 (l : List UInt8) (w : World) (hT : Lib.Utf8Tabs 0 1 w) :
    Calls Tryd.prog 5 #[.string ⟨l.toArray⟩] w fun e w' => e = .returned (.bool true) ∧ Below w.heap.size w w' := by
  have hsz : (⟨l.toArray⟩ : ByteArray).size = l.length := by simp [ByteArray.size]
  have H11 := Lib.hid (first_any w hT)
  have HT := Lib.hid hT; clear hT
  have C17 := fun (W : World) (h : l.length ≤ 5000) => squeeze_any l W (by omega)
  have C18 := fun (W : World) (h : l.length ≤ 5000) => rsqueeze_any l W (by omega)
  obtain ⟨S, hS⟩ : ∃ S, S = (⟨l.toArray⟩ : ByteArray) := ⟨_, rfl⟩
  rw [← hS] at hsz ⊢
  simp only [← hS] at C17 C18
  clear hS
  by_cases h : l.length ≤ 5000
  · have t1 : decide ((S.size : Int) > 5000) = false := by rw [decide_eq_false_iff_not]; omega
    have C17 := Lib.hid C17
    have C18 := Lib.hid C18
    go_enter Tryd.func5, Tryd.ntmps5
    go_wp2_with fail
    refine H11.out.mono ?_
    rintro e w1 ⟨rfl, b1⟩
    have hs1 := b1.size
    have hT1 := Lib.hid (tabs_below HT.out b1)
    clear H11
    have HC1 := Lib.hid (C17.out w1 h)
    go_wp2_with fail
    refine HC1.out.mono ?_
    rintro e w2 ⟨rfl, b2⟩
    have hs2 := b2.size
    clear HC1
    have HC2 := Lib.hid (C18.out w2 h)
    go_wp2_with fail
    refine HC2.out.mono ?_
    rintro e w3 ⟨rfl, b3⟩
    have hs3 := b3.size
    clear HC2
    go_wp2_with fail
    go_ret
    exact ⟨by simp, b1.trans ((b2.trans ((b3).mono hs2)).mono hs1)⟩
  · have t1 : decide ((S.size : Int) > 5000) = true := by rw [decide_eq_true_eq]; omega
    go_enter Tryd.func5, Tryd.ntmps5
    go_wp2_with fail
    refine H11.out.mono ?_
    rintro e w1 ⟨rfl, b1⟩
    go_wp2_with fail
    go_ret
    exact ⟨rfl, b1⟩

set_option maxHeartbeats 4000000 in
set_option maxRecDepth 100000 in
theorem law6 (l : List UInt8) (n : Int) (w : World) (hT : Lib.Utf8Tabs 0 1 w) (hn0 : -9223372036854775808 ≤ n) (hn1 : n ≤ 9223372036854775807) :
    Calls Tryd.prog 6 #[.string ⟨l.toArray⟩, .int .i64 n] w fun e w' => e = .returned (.bool true) ∧ Below w.heap.size w w' := by
  have hsz : (⟨l.toArray⟩ : ByteArray).size = l.length := by simp [ByteArray.size]
  have H11 := Lib.hid (first_any w hT)
  have HT := Lib.hid hT; clear hT
  have C19 := fun (W : World) (h : l.length ≤ 5000) => ucut_any l n W (by omega) hn0 hn1
  have C20 := fun (W : World) (h : l.length ≤ 5000) => rcut_any l n W (by omega) hn0 hn1
  obtain ⟨S, hS⟩ : ∃ S, S = (⟨l.toArray⟩ : ByteArray) := ⟨_, rfl⟩
  rw [← hS] at hsz ⊢
  simp only [← hS] at C19 C20
  clear hS
  by_cases h : l.length ≤ 5000
  · have t1 : decide ((S.size : Int) > 5000) = false := by rw [decide_eq_false_iff_not]; omega
    have C19 := Lib.hid C19
    have C20 := Lib.hid C20
    go_enter Tryd.func6, Tryd.ntmps6
    go_wp2_with fail
    refine H11.out.mono ?_
    rintro e w1 ⟨rfl, b1⟩
    have hs1 := b1.size
    have hT1 := Lib.hid (tabs_below HT.out b1)
    clear H11
    have HC1 := Lib.hid (C19.out w1 h)
    go_wp2_with fail
    refine HC1.out.mono ?_
    rintro e w2 ⟨rfl, b2⟩
    have hs2 := b2.size
    clear HC1
    have HC2 := Lib.hid (C20.out w2 h)
    go_wp2_with fail
    refine HC2.out.mono ?_
    rintro e w3 ⟨rfl, b3⟩
    have hs3 := b3.size
    clear HC2
    go_wp2_with fail
    go_ret
    exact ⟨by simp, b1.trans ((b2.trans ((b3).mono hs2)).mono hs1)⟩
  · have t1 : decide ((S.size : Int) > 5000) = true := by rw [decide_eq_true_eq]; omega
    go_enter Tryd.func6, Tryd.ntmps6
    go_wp2_with fail
    refine H11.out.mono ?_
    rintro e w1 ⟨rfl, b1⟩
    go_wp2_with fail
    go_ret
    exact ⟨rfl, b1⟩

set_option maxHeartbeats 4000000 in
set_option maxRecDepth 100000 in
theorem law4 (l : List UInt8) (w : World) (hT : Lib.Utf8Tabs 0 1 w) :
    Calls Tryd.prog 4 #[.string ⟨l.toArray⟩] w fun e w' => e = .returned (.bool true) ∧ Below w.heap.size w w' := by
  have hsz : (⟨l.toArray⟩ : ByteArray).size = l.length := by simp [ByteArray.size]
  have H11 := Lib.hid (first_any w hT)
  have hlen := fixedL_length l
  have C15 := fun (W : World) (h : l.length ≤ 5000) => upoints_any l W (by omega)
  have C16 := fun (W : World) (h : l.length ≤ 5000) => fixed_any l W (by omega)
  obtain ⟨S, hS⟩ : ∃ S, S = (⟨l.toArray⟩ : ByteArray) := ⟨_, rfl⟩
  rw [← hS] at hsz ⊢
  simp only [← hS] at C15 C16
  clear hS
  obtain ⟨P, hP⟩ : ∃ P, P = fixedL l := ⟨_, rfl⟩
  simp only [← hP] at C15 C16 hlen
  clear hP
  by_cases h : l.length ≤ 5000
  · have t1 : decide ((S.size : Int) > 5000) = false := by rw [decide_eq_false_iff_not]; omega
    have C15 := Lib.hid C15
    have C16 := Lib.hid C16
    go_enter Tryd.func4, Tryd.ntmps4
    go_wp2_with fail
    refine H11.out.mono ?_
    rintro e w1 ⟨rfl, b1⟩
    have hs1 := b1.size
    clear H11
    have HC1 := Lib.hid (C15.out w1 h)
    go_wp2_with fail
    refine HC1.out.mono ?_
    rintro e w2 ⟨v2, rfl, o2, b2⟩
    obtain ⟨A2, c2, rfl, hc2, _⟩ := own_form o2
    have hs2 := b2.size
    have Hr2 := Lib.hid (Rd.of_own o2)
    clear HC1 o2
    have HC2 := Lib.hid (C16.out w2 h)
    go_wp2_with fail
    refine HC2.out.mono ?_
    rintro e w3 ⟨v3, rfl, o3, b3⟩
    obtain ⟨A3, c3, rfl, hc3, _⟩ := own_form o3
    have hs3 := b3.size
    have HC3 := Lib.hid (same_any P P A2 A3 c2 c3 w3.heap.size w3 ((Hr2.out.keep b3).more hs3) (Rd.of_own o3) (by omega) (by omega))
    rw [show decide (P = P) = true from decide_eq_true rfl] at HC3
    clear HC2 o3
    go_wp2_with fail
    refine HC3.out.mono ?_
    rintro e w4 ⟨rfl, q, hq⟩
    have b4 : Below w3.heap.size w3 w4 := by rw [hq]; exact drew_below _ _
    clear HC3 hq
    go_wp2_with fail
    go_ret
    exact ⟨rfl, b1.trans ((b2.trans ((b3.trans (b4.mono hs3)).mono hs2)).mono hs1)⟩
  · have t1 : decide ((S.size : Int) > 5000) = true := by rw [decide_eq_true_eq]; omega
    go_enter Tryd.func4, Tryd.ntmps4
    go_wp2_with fail
    refine H11.out.mono ?_
    rintro e w1 ⟨rfl, b1⟩
    go_wp2_with fail
    go_ret
    exact ⟨rfl, b1⟩

set_option maxHeartbeats 4000000 in
set_option maxRecDepth 100000 in
theorem law7 (l : List UInt8) (w : World) (hT : Lib.Utf8Tabs 0 1 w) :
    Calls Tryd.prog 7 #[.string ⟨l.toArray⟩] w fun e w' => e = .returned (.bool true) ∧ Below w.heap.size w w' := by
  have hsz : (⟨l.toArray⟩ : ByteArray).size = l.length := by simp [ByteArray.size]
  have H11 := Lib.hid (first_any w hT)
  have hlen := fixedL_length l
  have hpt := fixedL_pts l
  have C21 : ∀ (W : World), l.length ≤ 5000 → Calls Tryd.prog 21 #[.string ⟨l.toArray⟩] W fun e w' => e = .returned (.string ⟨(textL (fixedL l)).toArray⟩) ∧ Below W.heap.size W w' := fun W h => repair_any l W (by omega)
  have C16 := fun (W : World) (h : l.length ≤ 5000) => fixed_any l W (by omega)
  have C23 := fun (W : World) (h : l.length ≤ 5000) => plain_any l W (by omega)
  have C24 := fun (W : World) (h : l.length ≤ 5000) => rplain_any l W (by omega)
  obtain ⟨S, hS⟩ : ∃ S, S = (⟨l.toArray⟩ : ByteArray) := ⟨_, rfl⟩
  rw [← hS] at hsz ⊢
  simp only [← hS] at C21 C16 C23 C24
  clear hS
  obtain ⟨L, hL⟩ : ∃ L, L = (⟨(plainL l).toArray⟩ : ByteArray) := ⟨_, rfl⟩
  simp only [← hL] at C23 C24
  clear hL
  obtain ⟨P, hP⟩ : ∃ P, P = fixedL l := ⟨_, rfl⟩
  simp only [← hP] at C21 C16 hlen hpt
  clear hP
  by_cases h : l.length ≤ 5000
  · have t1 : decide ((S.size : Int) > 5000) = false := by rw [decide_eq_false_iff_not]; omega
    have C21 := Lib.hid C21
    have C16 := Lib.hid C16
    have C23 := Lib.hid C23
    have C24 := Lib.hid C24
    have Hpt := Lib.hid hpt; clear hpt
    go_enter Tryd.func7, Tryd.ntmps7
    go_wp2_with fail
    refine H11.out.mono ?_
    rintro e w1 ⟨rfl, b1⟩
    have hs1 := b1.size
    clear H11
    have HC1 := Lib.hid (C21.out w1 h)
    go_wp2_with fail
    refine HC1.out.mono ?_
    rintro e w2 ⟨rfl, b2⟩
    have hs2 := b2.size
    clear HC1
    have HC2 := Lib.hid (C16.out w2 h)
    go_wp2_with fail
    refine HC2.out.mono ?_
    rintro e w3 ⟨v3, rfl, o3, b3⟩
    obtain ⟨A3, c3, rfl, hc3, _⟩ := own_form o3
    have hs3 := b3.size
    have HC3 := Lib.hid (text_any P A3 c3 w3.heap.size w3 (Rd.of_own o3) (Nat.le_refl _) hc3 (by omega) (fun p hp => isPt_range (Hpt.out p hp)))
    clear HC2 o3
    go_wp2_with fail
    refine HC3.out.mono ?_
    rintro e w4 ⟨rfl, b4⟩
    have hs4 := b4.size
    clear HC3
    have HC4 := Lib.hid (C23.out w4 h)
    go_wp2_with fail
    refine HC4.out.mono ?_
    rintro e w5 ⟨rfl, b5⟩
    have hs5 := b5.size
    clear HC4
    have HC5 := Lib.hid (C24.out w5 h)
    go_wp2_with fail
    refine HC5.out.mono ?_
    rintro e w6 ⟨rfl, b6⟩
    clear HC5
    go_wp2_with fail
    go_ret
    exact ⟨rfl, b1.trans ((b2.trans ((b3.trans ((b4.trans ((b5.trans (b6.mono hs5)).mono hs4)).mono hs3)).mono hs2)).mono hs1)⟩
  · have t1 : decide ((S.size : Int) > 5000) = true := by rw [decide_eq_true_eq]; omega
    go_enter Tryd.func7, Tryd.ntmps7
    go_wp2_with fail
    refine H11.out.mono ?_
    rintro e w1 ⟨rfl, b1⟩
    go_wp2_with fail
    go_ret
    exact ⟨rfl, b1⟩
end Go.Proofs.YtpmndnijejnhnaaDoor
