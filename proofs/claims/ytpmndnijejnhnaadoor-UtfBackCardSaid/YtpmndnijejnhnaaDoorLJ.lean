/-
  The law UtfJoins, walked.
-/
import Derived.Test.YtpmndnijejnhnaaDoorFst
namespace Go.Proofs.YtpmndnijejnhnaaDoor
open Go.RowKit

/-- A text, by its code points. -/
def tx (Q : List Int) : ByteArray := ⟨(textL Q).toArray⟩
def Pts (Q : List Int) : Prop := ∀ p ∈ Q, isPt p = true
theorem tx_cat (A B : List Int) : tx A ++ tx B = tx (A ++ B) := by unfold tx; rw [bytes_app, textL_app]
theorem tx_sp (A : List Int) : tx A ++ (⟨#[32]⟩ : ByteArray) = tx (A ++ [32]) := by rw [← tx_cat]; rfl
theorem Pts.app {A B : List Int} (ha : Pts A) (hb : Pts B) : Pts (A ++ B) := fun p hp => by
  rcases List.mem_append.1 hp with h | h
  · exact ha p h
  · exact hb p h
theorem Pts.filter {A : List Int} (ha : Pts A) (f : Int → Bool) : Pts (A.filter f) := fun p hp => ha p (List.mem_filter.1 hp).1
theorem Pts.sq {A : List Int} (ha : Pts A) : Pts (sqL A) := sq_pts A ha
theorem Pts.cut {A : List Int} (ha : Pts A) (n : Int) : Pts (cutP n A) := cut_pts n A ha
theorem Pts.sp : Pts [32] := fun p hp => by rw [List.mem_singleton.1 hp]; decide
theorem tx_size (Q : List Int) : (tx Q).size ≤ 4 * Q.length := by
  have := textL_length Q
  show (textL Q).length ≤ _
  omega
theorem c_repair (Q : List Int) (hQ : Pts Q) (hl : Q.length ≤ 15000) (w : World) : Calls Tryd.prog 21 #[.string (tx Q)] w fun e w' => e = .returned (.string (tx Q)) ∧ Below w.heap.size w w' := by
  have h := textL_length Q
  have := repair_any (textL Q) w (by omega)
  rw [repair_text Q hQ] at this
  exact this
theorem c_plain (Q : List Int) (hQ : Pts Q) (hl : Q.length ≤ 15000) (w : World) : Calls Tryd.prog 23 #[.string (tx Q)] w fun e w' => e = .returned (.string (tx (Q.filter xmlP))) ∧ Below w.heap.size w w' := by
  have h := textL_length Q
  have := plain_any (textL Q) w (by omega)
  unfold plainL at this
  rw [fixed_textL Q hQ] at this
  exact this
theorem c_squeeze (Q : List Int) (hQ : Pts Q) (hl : Q.length ≤ 15000) (w : World) : Calls Tryd.prog 17 #[.string (tx Q)] w fun e w' => e = .returned (.string (tx (sqL Q))) ∧ Below w.heap.size w w' := by
  have h := textL_length Q
  have := squeeze_any (textL Q) w (by omega)
  unfold squeezeL at this
  rw [fixed_textL Q hQ] at this
  exact this
theorem c_cut (Q : List Int) (hQ : Pts Q) (n : Int) (hn0 : -9223372036854775808 ≤ n) (hn1 : n ≤ 9223372036854775807) (hl : Q.length ≤ 15000) (w : World) : Calls Tryd.prog 19 #[.string (tx Q), .int .i64 n] w fun e w' => e = .returned (.string (tx (cutP n Q))) ∧ Below w.heap.size w w' := by
  have h := textL_length Q
  have := ucut_any (textL Q) n w (by omega) hn0 hn1
  unfold cutL at this
  rw [fixed_textL Q hQ] at this
  exact this
theorem c_points (Q : List Int) (hQ : Pts Q) (hl : Q.length ≤ 15000) (w : World) : Calls Tryd.prog 15 #[.string (tx Q)] w fun e w' => ∃ v, e = .returned v ∧ w'.ownsRow w.heap.size 3 1 v Q.length (ints Q) ∧ Below w.heap.size w w' := by
  have h := textL_length Q
  have := upoints_any (textL Q) w (by omega)
  rw [fixed_textL Q hQ] at this
  exact this
theorem c_valid (Q : List Int) (hQ : Pts Q) (hl : Q.length ≤ 15000) (w : World) (hT : Lib.Utf8Tabs 0 1 w) : Calls Tryd.prog 12 #[.string (tx Q)] w fun e w' => e = .returned (.bool true) ∧ Below w.heap.size w w' := by
  have h := textL_length Q
  have := uvalid_any (textL Q) w (by omega) hT
  rw [show validL (textL Q) = true from valid_text Q hQ] at this
  exact this

set_option maxHeartbeats 8000000 in
set_option maxRecDepth 100000 in
theorem law8 (a b : List UInt8) (w : World) (hT : Lib.Utf8Tabs 0 1 w) :
    Calls Tryd.prog 8 #[.string ⟨a.toArray⟩, .string ⟨b.toArray⟩] w fun e w' => e = .returned (.bool true) ∧ Below w.heap.size w w' := by
  have hsa : (⟨a.toArray⟩ : ByteArray).size = a.length := by simp [ByteArray.size]
  have hsb : (⟨b.toArray⟩ : ByteArray).size = b.length := by simp [ByteArray.size]
  have H11 := Lib.hid (first_any w hT)
  have hA : Pts (fixedL a) := fixedL_pts a
  have hB : Pts (fixedL b) := fixedL_pts b
  have hla := fixedL_length a
  have hlb := fixedL_length b
  have CA : ∀ W : World, a.length ≤ 3000 → Calls Tryd.prog 21 #[.string ⟨a.toArray⟩] W fun e w' => e = .returned (.string (tx (fixedL a))) ∧ Below W.heap.size W w' := fun W h => repair_any a W (by omega)
  have CB : ∀ W : World, b.length ≤ 3000 → Calls Tryd.prog 21 #[.string ⟨b.toArray⟩] W fun e w' => e = .returned (.string (tx (fixedL b))) ∧ Below W.heap.size W w' := fun W h => repair_any b W (by omega)
  obtain ⟨Sa, hSa⟩ : ∃ S, S = (⟨a.toArray⟩ : ByteArray) := ⟨_, rfl⟩
  obtain ⟨Sb, hSb⟩ : ∃ S, S = (⟨b.toArray⟩ : ByteArray) := ⟨_, rfl⟩
  rw [← hSa] at hsa ⊢
  rw [← hSb] at hsb ⊢
  simp only [← hSa] at CA
  simp only [← hSb] at CB
  clear hSa hSb
  obtain ⟨A, hAe⟩ : ∃ A, A = fixedL a := ⟨_, rfl⟩
  obtain ⟨B, hBe⟩ : ∃ B, B = fixedL b := ⟨_, rfl⟩
  simp only [← hAe] at CA hA hla
  simp only [← hBe] at CB hB hlb
  clear hAe hBe
  by_cases h : a.length ≤ 3000 ∧ b.length ≤ 3000
  · have t1 : decide (max (Sa.size : Int) (Sb.size : Int) > 3000) = false := by rw [decide_eq_false_iff_not]; omega
    obtain ⟨h1, h2⟩ := h
    -- the contracts, at lists without names' parts
    have P15A := fun W : World => c_points A hA (by omega) W
    have P15B := fun W : World => c_points B hB (by omega) W
    have P15 := fun W : World => c_points (A ++ B) (hA.app hB) (by rw [List.length_append]; omega) W
    have P23 := fun W : World => c_plain (A ++ B) (hA.app hB) (by rw [List.length_append]; omega) W
    have P23A := fun W : World => c_plain A hA (by omega) W
    have P23B := fun W : World => c_plain B hB (by omega) W
    have hqa := sq_length A
    have hqb := sq_length B
    have P17 := fun W : World => c_squeeze ((A ++ [32]) ++ B) ((hA.app Pts.sp).app hB) (by simp only [List.length_append, List.length_singleton]; omega) W
    have P17A := fun W : World => c_squeeze A hA (by omega) W
    have P17B := fun W : World => c_squeeze B hB (by omega) W
    have P17Q := fun W : World => c_squeeze ((sqL A ++ [32]) ++ sqL B) ((hA.sq.app Pts.sp).app hB.sq) (by simp only [List.length_append, List.length_singleton]; omega) W
    have eQ : sqL ((sqL A ++ [32]) ++ sqL B) = sqL ((A ++ [32]) ++ B) := by
      have := sq_join A B
      simpa using this
    rw [eQ] at P17Q
    have eF : (A ++ B).filter xmlP = A.filter xmlP ++ B.filter xmlP := List.filter_append _ _
    have k1 := tx_cat A B
    have k2 := tx_cat (A.filter xmlP) (B.filter xmlP)
    rw [← eF] at k2
    have k3 := tx_sp A
    have k4 := tx_cat (A ++ [32]) B
    have k5 := tx_sp (sqL A)
    have k6 := tx_cat (sqL A ++ [32]) (sqL B)
    have z1 := tx_size A
    have z2 := tx_size B
    have z3 := tx_size (A.filter xmlP)
    have z4 := tx_size (B.filter xmlP)
    have z5 := tx_size (A ++ [32])
    have z6 := tx_size (sqL A)
    have z7 := tx_size (sqL B)
    have z8 := tx_size (sqL A ++ [32])
    have l1 := List.length_filter_le xmlP A
    have l2 := List.length_filter_le xmlP B
    rw [List.length_append, List.length_singleton] at z5 z8
    have e15 : (A ++ B).length = A.length + B.length := List.length_append
    have SAME := fun (W : World) (X Y : Option Addr) (cx cy K : Nat) (hx : Rd W K 1 X (A ++ B).length (ints (A ++ B))) (hy : Rd W K 1 Y (A ++ B).length (ints (A ++ B))) => same_any (A ++ B) (A ++ B) X Y cx cy K W hx hy (by omega) (by omega)
    rw [e15] at SAME
    simp only [e15, decide_true] at P15 SAME
    have eI : ints A ++ ints B = ints (A ++ B) := by simp [ints]
    obtain ⟨nA, hnA⟩ : ∃ n, n = A.length := ⟨_, rfl⟩
    obtain ⟨nB, hnB⟩ : ∃ n, n = B.length := ⟨_, rfl⟩
    rw [← hnA] at hla; rw [← hnB] at hlb
    simp only [← hnA, ← hnB] at P15 P15A P15B SAME
    obtain ⟨FA, hFA⟩ : ∃ F, F = A.filter xmlP := ⟨_, rfl⟩
    obtain ⟨FB, hFB⟩ : ∃ F, F = B.filter xmlP := ⟨_, rfl⟩
    obtain ⟨F, hF⟩ : ∃ F, F = (A ++ B).filter xmlP := ⟨_, rfl⟩
    obtain ⟨QA, hQA⟩ : ∃ F, F = sqL A := ⟨_, rfl⟩
    obtain ⟨QB, hQB⟩ : ∃ F, F = sqL B := ⟨_, rfl⟩
    simp only [← hFA, ← hFB, ← hF, ← hQA, ← hQB] at P23 P23A P23B P17A P17B P17Q k2 k5 k6 z3 z4 z6 z7 z8 l1 l2 hqa hqb
    obtain ⟨D, hD⟩ : ∃ F, F = A ++ [32] := ⟨_, rfl⟩
    simp only [← hD] at P17 P17Q k3 k4 z5
    obtain ⟨E, hE⟩ : ∃ F, F = D ++ B := ⟨_, rfl⟩
    simp only [← hE] at P17 P17Q k4
    obtain ⟨QE, hQE⟩ : ∃ F, F = sqL E := ⟨_, rfl⟩
    simp only [← hQE] at P17 P17Q
    obtain ⟨Q1, hQ1⟩ : ∃ F, F = QA ++ [32] := ⟨_, rfl⟩
    simp only [← hQ1] at P17Q k5 k6 z8
    obtain ⟨Q2, hQ2⟩ : ∃ F, F = Q1 ++ QB := ⟨_, rfl⟩
    simp only [← hQ2] at P17Q k6
    obtain ⟨AB, hAB⟩ : ∃ F, F = A ++ B := ⟨_, rfl⟩
    simp only [← hAB] at P15 P23 SAME k1 eI
    have y1 : ¬ 9223372036854775807 < (tx A).size + (tx B).size := by omega
    have y2 : ¬ 9223372036854775807 < (tx FA).size + (tx FB).size := by omega
    have y3 : ¬ 9223372036854775807 < (tx A).size + 1 := by omega
    have y4 : ¬ 9223372036854775807 < (tx D).size + (tx B).size := by omega
    have y5 : ¬ 9223372036854775807 < (tx QA).size + 1 := by omega
    have y6 : ¬ 9223372036854775807 < (tx Q1).size + (tx QB).size := by omega
    have P15 := Lib.hid P15; have P15A := Lib.hid P15A; have P15B := Lib.hid P15B; have SAME := Lib.hid SAME
    have P23 := Lib.hid P23; have P23A := Lib.hid P23A; have P23B := Lib.hid P23B
    have P17 := Lib.hid P17; have P17A := Lib.hid P17A; have P17B := Lib.hid P17B; have P17Q := Lib.hid P17Q
    have CA := Lib.hid CA; have CB := Lib.hid CB; have EI := Lib.hid eI
    have m1 : nA ≤ 3000 := by omega
    have m2 : nB ≤ 3000 := by omega
    clear hFA hFB hF hQA hQB hD hE hQE hQ1 hQ2 hAB hnA hnB eQ eF e15 l1 l2 z1 z2 z3 z4 z5 z6 z7 z8 hqa hqb eI hA hB
    go_enter Tryd.func8, Tryd.ntmps8
    go_wp2_with fail
    refine H11.out.mono ?_
    rintro e w1 ⟨rfl, b1⟩
    have hs1 := b1.size
    clear H11
    have HC := Lib.hid (CA.out w1 h1)
    go_wp2_with fail
    refine HC.out.mono ?_
    rintro e w2 ⟨rfl, b2⟩
    have hs2 := b2.size
    clear HC
    have HC := Lib.hid (CB.out w2 h2)
    go_wp2_with fail
    refine HC.out.mono ?_
    rintro e w3 ⟨rfl, b3⟩
    have hs3 := b3.size
    clear HC
    have HC := Lib.hid (P15.out w3)
    go_wp2_with fail
    refine HC.out.mono ?_
    rintro e w4 ⟨v4, rfl, o4, b4⟩
    obtain ⟨A4, c4, rfl, hc4, _⟩ := own_form o4
    have hs4 := b4.size
    have Hr4 := Lib.hid (Rd.of_own o4)
    clear HC o4
    have hbz := (Below.refl w4.heap.size w4).alloc (Nat.le_refl _) (.cells #[] 3)
    have Hz := Lib.hid (own_zero w4 3)
    have HC := Lib.hid (P15A.out (w4.alloc (.cells #[] 3)))
    have hsz4 : w4.heap.size ≤ (w4.alloc (.cells #[] 3)).heap.size := hbz.size
    go_wp2_with fail
    refine HC.out.mono ?_
    rintro e w5 ⟨v5, rfl, o5, b5⟩
    obtain ⟨A5, c5, rfl, hc5, _⟩ := own_form o5
    have hs5 := b5.size
    have Hr5 := Lib.hid (Rd.of_own o5)
    have Hz5 := Lib.hid (own_below Hz.out b5 (fun k hk => (Hz.out.lt k hk).2))
    have hb5 : Below w4.heap.size w4 w5 := hbz.trans (b5.mono hsz4)
    have hs45 := hb5.size
    clear HC o5 Hz b5 hbz hsz4 hs5
    go_wp2_with (at_builtin; refine wpList_appendRd rfl (.tmp 23) (.tmp 25) 25 rfl w4.heap.size 3 (.int .i64 0) 1 8 Tryd.underlying25 (by kernel_rfl) rfl (by decide) (.slice (some ⟨w4.heap.size, 0, none⟩) 0 0) 0 [] rfl Hz5.out _ A5 nA c5 (ints A) rfl Hr5.out (ints_one _) (by omega) (by omega) hs45 ?_; intro A6 c6 w6 hown6 hb6 _; rw [Nat.zero_add, List.nil_append] at hown6; have hs6 := hb6.size; have Hown6 := Lib.hid hown6; clear hown6; rw [Nat.zero_add])
    have HC := Lib.hid (P15B.out w6)
    clear Hz5 Hr5
    go_wp2_with fail
    refine HC.out.mono ?_
    rintro e w7 ⟨v7, rfl, o7, b7⟩
    obtain ⟨A7, c7, rfl, hc7, _⟩ := own_form o7
    have hs7 := b7.size
    have Hr7 := Lib.hid (Rd.of_own o7)
    have Hown7 := Lib.hid (own_below Hown6.out b7 (fun k hk => (Hown6.out.lt k hk).2))
    have hb47 : Below w4.heap.size w4 w7 := hb5.trans (hb6.trans (b7.mono (by omega)))
    have hs47 := hb47.size
    clear HC o7 Hown6 b7 hb6 hs7 hs6 hb5 hs45
    go_wp2_with (at_builtin; refine wpList_appendRd rfl (.tmp 26) (.tmp 28) 25 rfl w4.heap.size 3 (.int .i64 0) 1 8 Tryd.underlying25 (by kernel_rfl) rfl (by decide) _ nA (ints A) rfl Hown7.out _ A7 nB c7 (ints B) rfl Hr7.out (ints_one _) (by omega) (by omega) hs47 ?_; intro A8 c8 w8 hown8 hb8 _; rw [EI.out] at hown8; have hs8 := hb8.size; have Hown8 := Lib.hid hown8; clear hown8)
    have hb48 : Below w4.heap.size w4 w8 := hb47.trans hb8
    have HC := Lib.hid (SAME.out w8 A4 A8 c4 c8 w8.heap.size ((Hr4.out.keep hb48).more hb48.size) (Rd.of_own Hown8.out))
    clear Hown7 Hr7 hb47 hs47 hb8 hs8
    go_wp2_with fail
    refine HC.out.mono ?_
    rintro e w9 ⟨rfl, q, hq⟩
    have hb49 : Below w4.heap.size w4 w9 := by rw [hq]; exact hb48.trans ((drew_below w8 q).mono hb48.size)
    have hs49 := hb49.size
    clear HC hq hb48 Hown8 Hr4
    have HC := Lib.hid (P23.out w9)
    go_wp2_with fail
    refine HC.out.mono ?_
    rintro e w10 ⟨rfl, b10⟩
    have hs10 := b10.size
    clear HC
    have HC := Lib.hid (P23A.out w10)
    go_wp2_with fail
    refine HC.out.mono ?_
    rintro e w11 ⟨rfl, b11⟩
    have hs11 := b11.size
    clear HC
    have HC := Lib.hid (P23B.out w11)
    go_wp2_with fail
    refine HC.out.mono ?_
    rintro e w12 ⟨rfl, b12⟩
    have hs12 := b12.size
    clear HC
    have HC := Lib.hid (P17.out w12)
    go_wp2_with fail
    refine HC.out.mono ?_
    rintro e w13 ⟨rfl, b13⟩
    have hs13 := b13.size
    clear HC
    have HC := Lib.hid (P17A.out w13)
    go_wp2_with fail
    refine HC.out.mono ?_
    rintro e w14 ⟨rfl, b14⟩
    have hs14 := b14.size
    clear HC
    have HC := Lib.hid (P17B.out w14)
    go_wp2_with fail
    refine HC.out.mono ?_
    rintro e w15 ⟨rfl, b15⟩
    have hs15 := b15.size
    clear HC
    have HC := Lib.hid (P17Q.out w15)
    go_wp2_with fail
    refine HC.out.mono ?_
    rintro e w16 ⟨rfl, b16⟩
    clear HC
    go_wp2_with fail
    go_ret
    have r15 := b15.trans (b16.mono hs15)
    have r14 := b14.trans (r15.mono hs14)
    have r13 := b13.trans (r14.mono hs13)
    have r12 := b12.trans (r13.mono hs12)
    have r11 := b11.trans (r12.mono hs11)
    have r10 := b10.trans (r11.mono hs10)
    have r9 := hb49.trans (r10.mono hs49)
    have r4 := b4.trans (r9.mono hs4)
    have r3 := b3.trans (r4.mono hs3)
    have r2 := b2.trans (r3.mono hs2)
    exact ⟨by first | rfl | simp, b1.trans (r2.mono hs1)⟩
  · have t1 : decide (max (Sa.size : Int) (Sb.size : Int) > 3000) = true := by rw [decide_eq_true_eq]; omega
    go_enter Tryd.func8, Tryd.ntmps8
    go_wp2_with fail
    refine H11.out.mono ?_
    rintro e w1 ⟨rfl, b1⟩
    go_wp2_with fail
    go_ret
    exact ⟨rfl, b1⟩
end Go.Proofs.YtpmndnijejnhnaaDoor
