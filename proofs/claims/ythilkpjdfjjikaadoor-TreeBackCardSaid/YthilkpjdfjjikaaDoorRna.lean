/-
  The document's names.
-/
import Derived.Test.YthilkpjdfjjikaaDoorPthM
import Derived.Test.YthilkpjdfjjikaaDoorPrwM
set_option linter.unusedVariables false
set_option linter.unusedSimpArgs false
namespace Go.Proofs.YthilkpjdfjjikaaDoor
open Go.RowKit

theorem tail_n (y : Nat) (hy : y < 256) : ([48, 49, 50, 51, 52, 53, 54, 55, 56, 57, 95] : Bs).contains (UInt8.ofNat y) = ((decide (48 ≤ y) && decide (y ≤ 57)) || decide (y = 95)) := by
  have h : ∀ k : Nat, k < 256 → (UInt8.ofNat y == UInt8.ofNat k) = decide (y = k) := by
    intro k hk
    rw [Bool.eq_iff_iff, beq_iff_eq, decide_eq_true_eq]
    constructor
    · intro e
      have := congrArg UInt8.toNat e
      rw [UInt8.toNat_ofNat', UInt8.toNat_ofNat', Nat.mod_eq_of_lt (by simpa using hy), Nat.mod_eq_of_lt (by simpa using hk)] at this
      exact this
    · rintro rfl; rfl
  have e : ([48, 49, 50, 51, 52, 53, 54, 55, 56, 57, 95] : Bs) = ([48, 49, 50, 51, 52, 53, 54, 55, 56, 57, 95] : List Nat).map UInt8.ofNat := rfl
  rw [e]
  simp only [List.map_cons, List.map_nil, List.contains_cons, List.contains_nil]
  rw [h 48 (by decide), h 49 (by decide), h 50 (by decide), h 51 (by decide), h 52 (by decide), h 53 (by decide), h 54 (by decide), h 55 (by decide), h 56 (by decide), h 57 (by decide), h 95 (by decide)]
  rw [Bool.eq_iff_iff]
  simp
  omega
theorem tail_b (c : UInt8) : ([48, 49, 50, 51, 52, 53, 54, 55, 56, 57, 95] : Bs).contains c = ((decide (48 ≤ c.toNat) && decide (c.toNat ≤ 57)) || decide (c.toNat = 95)) := by
  have := tail_n c.toNat c.toNat_lt
  rwa [UInt8.ofNat_toNat] at this
theorem drop_getD (s : Bs) (j : Nat) (h : j < s.length) : s.drop j = s.getD j 0 :: s.drop (j + 1) := by
  rw [List.drop_eq_getElem_cons h, List.getD_eq_getElem?_getD, List.getElem?_eq_getElem h]; rfl
theorem res_at (s : Bs) (i : Nat) (h : i < 6) (he : s = resW.getD i []) : resB s = true := by
  unfold resB
  rw [decide_eq_true_eq, he, List.getD_eq_getElem?_getD, List.getElem?_eq_getElem (by exact h)]
  exact List.getElem_mem _
theorem res_never (s : Bs) (h : ∀ i, i < 6 → s ≠ resW.getD i []) : resB s = false := by
  unfold resB
  rw [decide_eq_false_iff_not]
  intro hm
  obtain ⟨i, hi, e⟩ := List.mem_iff_getElem.1 hm
  refine h i hi ?_
  rw [List.getD_eq_getElem?_getD, List.getElem?_eq_getElem hi]
  exact e.symm
set_option maxHeartbeats 4000000 in
set_option maxRecDepth 100000 in
theorem nameR_any (s : Bs) (w : World) (hl : s.length ≤ 1000000) : Calls Tryd.prog 59 #[.string (bs s)] w fun e w' => e = .returned (.bool (nameB s)) ∧ Below w.heap.size w w' := by
  have hz : (bs s).size = s.length := bs_size s
  have HX := Lib.hid (fun i h w => str_byte s i h w)
  have H53 : Hid (∀ (c : UInt8) (w : World), Calls Tryd.prog 53 #[.int .u8 ((c.toNat : Nat) : Int), .string ⟨#[48, 49, 50, 51, 52, 53, 54, 55, 56, 57, 95]⟩] w fun e w' => e = .returned (.bool (([48, 49, 50, 51, 52, 53, 54, 55, 56, 57, 95] : Bs).contains c)) ∧ w' = w) := fun c w => one_any c [48, 49, 50, 51, 52, 53, 54, 55, 56, 57, 95] w (by decide)
  obtain ⟨R, hR⟩ : ∃ R, R = nameB s := ⟨_, rfl⟩
  rw [← hR]
  have HR := Lib.hid hR; clear hR
  have HSB := Lib.hid (fun l => eq_bs s l)
  obtain ⟨S, hS⟩ : ∃ S, S = bs s := ⟨_, rfl⟩
  rw [← hS] at hz HX HSB ⊢
  clear hS
  obtain ⟨n, hn⟩ : ∃ n, n = s.length := ⟨_, rfl⟩
  rw [← hn] at hz hl HX
  have Hn := Lib.hid hn; clear hn
  go_enter Tryd.func59, Tryd.ntmps59
  go_wp2_with fail
  go_loopw [3] (fun i wr => ∃ j : Nat, i = .int .i64 (j : Int) ∧ j ≤ n ∧ okFrom 0 s = okFrom j (s.drop j) ∧ wr = w) (fun i _ => n - (intOf i).toNat)
  case atStart => exact ⟨0, rfl, Nat.zero_le _, rfl, rfl⟩
  case round =>
    obtain ⟨j, rfl, hj, hok, rfl⟩ := hrel
    by_cases hjn : j < n
    · have tj : decide ((j : Int) < (n : Int)) = true := by rw [decide_eq_true_eq]; omega
      have hx := fun W => HX.out j hjn W
      have hdr := drop_getD s j (by rw [← Hn.out]; exact hjn)
      rw [hdr] at hok
      have H53c := Lib.hid (H53.out (s.getD j 0))
      rw [tail_b] at H53c
      generalize s.getD j 0 = c at hx hok H53c
      have hlt := c.toNat_lt
      have hok2 : okFrom 0 s = (okN j c.toNat && okFrom (j + 1) (s.drop (j + 1))) := hok
      generalize c.toNat = y at hx hok2 H53c hlt
      clear hok hdr
      have HOK := Lib.hid hok2; clear hok2
      by_cases hlo : 97 ≤ y ∧ y ≤ 122
      · have t1 : decide ((y : Int) ≥ 97) = true := by rw [decide_eq_true_eq]; omega
        have t2 : decide ((y : Int) ≤ 122) = true := by rw [decide_eq_true_eq]; omega
        have hoN : okN j y = true := by unfold okN; rw [decide_eq_true hlo.1, decide_eq_true hlo.2]; rfl
        have H1 := Lib.hid (by rw [HOK.out, hoN, Bool.true_and] : okFrom 0 s = okFrom (j + 1) (s.drop (j + 1)))
        clear hoN
        go_wp2_with fail
        exact ⟨⟨j + 1, by go_num, by omega, H1.out, by first | exact rfl | exact trivial⟩, by simp [intOf]; omega⟩
      · have hnl : (decide (97 ≤ y) && decide (y ≤ 122)) = false := by
          rw [← Bool.not_eq_true, Bool.and_eq_true, decide_eq_true_eq, decide_eq_true_eq]; exact hlo
        by_cases hj0 : j = 0
        · have hoN : okN j y = false := by rw [hj0]; unfold okN; rw [hnl]; rfl
          have tz : ((j : Int) == 0) = true := by rw [hj0]; rfl
          have tz2 : (j == 0) = true := by rw [hj0]; rfl
          have HJ0 := Lib.hid hj0
          clear hj0
          have hr : R = false := by rw [HR.out]; unfold nameB; rw [HOK.out, hoN]; rfl
          have HRf := Lib.hid hr
          clear hr hoN hnl
          by_cases h1 : 97 ≤ y
          · have t1 : decide ((y : Int) ≥ 97) = true := by rw [decide_eq_true_eq]; omega
            have t2 : decide ((y : Int) ≤ 122) = false := by rw [decide_eq_false_iff_not]; omega
            go_wp2_with fail
            go_ret
            exact ⟨by rw [HRf.out]; rfl, Below.refl _ _⟩
          · have t1 : decide ((y : Int) ≥ 97) = false := by rw [decide_eq_false_iff_not]; omega
            go_wp2_with fail
            go_ret
            exact ⟨by rw [HRf.out]; rfl, Below.refl _ _⟩
        · have tz : ((j : Int) == 0) = false := by rw [beq_eq_false_iff_ne]; omega
          have hjp : decide (0 < j) = true := by rw [decide_eq_true_eq]; omega
          cases hd : ((decide (48 ≤ y) && decide (y ≤ 57)) || decide (y = 95)) with
          | true =>
            rw [hd] at H53c
            have hoN : okN j y = true := by unfold okN; rw [hnl, hjp, hd]; rfl
            have H1 := Lib.hid (by rw [HOK.out, hoN, Bool.true_and] : okFrom 0 s = okFrom (j + 1) (s.drop (j + 1)))
            clear hoN hnl hjp hd
            by_cases h1 : 97 ≤ y
            · have t1 : decide ((y : Int) ≥ 97) = true := by rw [decide_eq_true_eq]; omega
              have t2 : decide ((y : Int) ≤ 122) = false := by rw [decide_eq_false_iff_not]; omega
              go_wp2_with (go_at_call 53; refine (H53c.out _).mono ?_; rintro e w4 ⟨rfl, rfl⟩)
              exact ⟨⟨j + 1, by go_num, by omega, H1.out, by first | exact rfl | exact trivial⟩, by simp [intOf]; omega⟩
            · have t1 : decide ((y : Int) ≥ 97) = false := by rw [decide_eq_false_iff_not]; omega
              go_wp2_with (go_at_call 53; refine (H53c.out _).mono ?_; rintro e w4 ⟨rfl, rfl⟩)
              exact ⟨⟨j + 1, by go_num, by omega, H1.out, by first | exact rfl | exact trivial⟩, by simp [intOf]; omega⟩
          | false =>
            rw [hd] at H53c
            have hoN : okN j y = false := by unfold okN; rw [hnl, hjp, hd]; rfl
            have hr : R = false := by rw [HR.out]; unfold nameB; rw [HOK.out, hoN]; rfl
            have HRf := Lib.hid hr
            clear hr hoN hnl hjp hd
            by_cases h1 : 97 ≤ y
            · have t1 : decide ((y : Int) ≥ 97) = true := by rw [decide_eq_true_eq]; omega
              have t2 : decide ((y : Int) ≤ 122) = false := by rw [decide_eq_false_iff_not]; omega
              go_wp2_with (go_at_call 53; refine (H53c.out _).mono ?_; rintro e w4 ⟨rfl, rfl⟩)
              go_ret
              exact ⟨by rw [HRf.out]; rfl, Below.refl _ _⟩
            · have t1 : decide ((y : Int) ≥ 97) = false := by rw [decide_eq_false_iff_not]; omega
              go_wp2_with (go_at_call 53; refine (H53c.out _).mono ?_; rintro e w4 ⟨rfl, rfl⟩)
              go_ret
              exact ⟨by rw [HRf.out]; rfl, Below.refl _ _⟩
    · obtain rfl : j = n := by omega
      have hok1 : okFrom 0 s = true := by rw [hok, List.drop_of_length_le (by rw [← Hn.out]; exact Nat.le_refl _)]; rfl
      have tj : decide ((j : Int) < (j : Int)) = false := by rw [decide_eq_false_iff_not]; omega
      have hr1 : R = (decide (0 < j) && decide (j ≤ 30) && !resB s) := by rw [HR.out]; unfold nameB; rw [hok1, ← Hn.out, Bool.true_and]
      have HR1 := Lib.hid hr1
      have HN0 := Lib.hid (show (S.toList == []) = decide (j = 0) from by
        rw [HSB.out, Bool.eq_iff_iff, beq_iff_eq, decide_eq_true_eq, Hn.out]
        exact List.length_eq_zero_iff.symm)
      clear hok hok1 hr1
      go_upto_region 7 with fail
      have hG := blk_new wr 9 #[.string ⟨#[104, 116, 109, 108]⟩, .string ⟨#[102, 111, 114]⟩, .string ⟨#[105, 110]⟩, .string ⟨#[105, 102]⟩, .string ⟨#[101, 108, 115, 101]⟩, .string ⟨#[101, 110, 100]⟩]
      have hB : Below wr.heap.size wr (wr.alloc (.cells #[.string ⟨#[104, 116, 109, 108]⟩, .string ⟨#[102, 111, 114]⟩, .string ⟨#[105, 110]⟩, .string ⟨#[105, 102]⟩, .string ⟨#[101, 108, 115, 101]⟩, .string ⟨#[101, 110, 100]⟩] 9)) := (Below.refl _ wr).alloc (Nat.le_refl _) _
      obtain ⟨W, hW⟩ : ∃ W, W = wr.alloc (.cells #[.string ⟨#[104, 116, 109, 108]⟩, .string ⟨#[102, 111, 114]⟩, .string ⟨#[105, 110]⟩, .string ⟨#[105, 102]⟩, .string ⟨#[101, 108, 115, 101]⟩, .string ⟨#[101, 110, 100]⟩] 9) := ⟨_, rfl⟩
      rw [← hW] at hG hB ⊢
      have HC := Lib.hid (fun (k : Nat) (hk : k < 6) => (show W.cell? ⟨wr.heap.size, k, none⟩ = some (.string (bs (resW.getD k []))) from by
        rw [blk_cell hG k]
        rcases (by omega : k = 0 ∨ k = 1 ∨ k = 2 ∨ k = 3 ∨ k = 4 ∨ k = 5) with rfl | rfl | rfl | rfl | rfl | rfl <;> rfl))
      have HB := Lib.hid hB
      clear hG hB hW
      go_loopw [36] (fun i wx => ∃ k : Nat, i = .int .i64 (k : Int) ∧ k ≤ 6 ∧ (∀ x, x < k → s ≠ resW.getD x []) ∧ wx = W) (fun i _ => 6 - (intOf i).toNat)
      case atStart => exact ⟨0, rfl, Nat.zero_le _, fun x hx => absurd hx (Nat.not_lt_zero x), rfl⟩
      case round =>
        obtain ⟨k, rfl, hk, hno, rfl⟩ := hrel
        have HN := Lib.hid hno; clear hno
        by_cases hk6 : k < 6
        · have tk : decide ((k : Int) < 6) = true := by rw [decide_eq_true_eq]; omega
          have hcell := HC.out k hk6
          obtain ⟨X, hX⟩ : ∃ X, X = bs (resW.getD k []) := ⟨_, rfl⟩
          have hXl : X.toList = resW.getD k [] := by rw [hX, bs_toList]
          rw [← hX] at hcell
          have HXl := Lib.hid hXl
          clear hX hXl
          by_cases he : s = resW.getD k []
          · have te : (S.toList == X.toList) = true := by rw [HXl.out, HSB.out, beq_iff_eq]; exact he
            have hr : R = false := by rw [HR1.out, res_at s k hk6 he]; simp
            have HRf := Lib.hid hr
            clear hr he
            go_wp2_with fail
            go_ret
            exact ⟨by rw [HRf.out]; rfl, HB.out⟩
          · have te : (S.toList == X.toList) = false := by rw [HXl.out, HSB.out, beq_eq_false_iff_ne]; exact he
            have HE := Lib.hid he
            clear he
            go_wp2_with fail
            refine ⟨⟨k + 1, by go_num, by omega, ?_, by first | exact rfl | exact trivial⟩, by simp [intOf]; omega⟩
            intro x hx
            by_cases h : x < k
            · exact HN.out x h
            · obtain rfl : x = k := by omega
              exact HE.out
        · obtain rfl : k = 6 := by omega
          have tk : decide (((6 : Nat) : Int) < 6) = false := by decide
          have hr : R = (decide (0 < j) && decide (j ≤ 30)) := by rw [HR1.out, res_never s HN.out]; simp
          have HRf := Lib.hid hr
          clear hr
          by_cases h0 : j = 0
          · have t0 : (S.toList == []) = true := by rw [HN0.out, decide_eq_true h0]
            have HJ0 := Lib.hid h0
            clear h0
            go_wp2_with fail
            go_ret
            exact ⟨by rw [HRf.out, HJ0.out]; rfl, HB.out⟩
          · have t0 : (S.toList == []) = false := by rw [HN0.out, decide_eq_false h0]
            have hp : decide (0 < j) = true := by rw [decide_eq_true_eq]; omega
            rw [hp, Bool.true_and] at HRf
            clear hp h0
            go_wp2_with fail
            go_ret
            refine ⟨?_, HB.out⟩
            rw [HRf.out, show decide (j ≤ 30) = decide ((j : Int) ≤ 30) from by rw [Bool.eq_iff_iff, decide_eq_true_eq, decide_eq_true_eq]; omega]
            rfl
end Go.Proofs.YthilkpjdfjjikaaDoor
