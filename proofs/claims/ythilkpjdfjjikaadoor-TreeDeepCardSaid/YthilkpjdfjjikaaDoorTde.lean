/-
  law18.TreeDeep, walked.
-/
import Derived.Test.YthilkpjdfjjikaaDoorSmtM
import Derived.Test.YthilkpjdfjjikaaDoorDpp
set_option linter.unusedVariables false
set_option linter.unusedSimpArgs false
namespace Go.Proofs.YthilkpjdfjjikaaDoor
open Go.RowKit

theorem wf_u8 {n : Int} (h : (Lit.int .u8 n).wf = true) : 0 ≤ n ∧ n ≤ 255 := by
  simp only [Lit.wf, Bool.and_eq_true, decide_eq_true_eq] at h
  exact h
theorem wf_u32 {n : Int} (h : (Lit.int .u32 n).wf = true) : 0 ≤ n ∧ n ≤ 4294967295 := by
  simp only [Lit.wf, Bool.and_eq_true, decide_eq_true_eq] at h
  exact h
set_option maxHeartbeats 8000000 in
set_option maxRecDepth 100000 in
theorem deep_any (nn kk : Int) (h0 : 0 ≤ nn) (h1 : nn ≤ 255) (h2 : 0 ≤ kk) (h3 : kk ≤ 4294967295) (w : World) (hT : Tabs w) :
    Calls Tryd.prog 8 #[.int .u8 nn, .int .u32 kk] w fun e w' => e = .returned (.bool true) ∧ Below w.heap.size w w' := by
  have HF := Lib.hid (firstT_any w hT)
  have HT := Lib.hid hT
  clear hT
  obtain ⟨k, hk⟩ : ∃ k : Nat, nn % 30 = k := ⟨(nn % 30).toNat, by omega⟩
  have hk29 : k ≤ 29 := by omega
  have hkw : IntKind.i64.wrap (k : Int) = k := IntWalk.i64_in _ (by omega)
  go_enter Tryd.func8, Tryd.ntmps8
  go_wp2_with (go_at_call 15; refine HF.out.mono ?_; rintro e w1 ⟨rfl, b1⟩)
  have B1 := Lib.hid b1
  clear b1 HF
  have l1 : bs (tagT wIf) = ⟨#[123, 123, 105, 102, 32, 97, 125, 125]⟩ := rfl
  have l2 : bs (tagT wFor) = ⟨#[123, 123, 102, 111, 114, 32, 120, 32, 105, 110, 32, 97, 125, 125]⟩ := rfl
  have l3 : bs (tagT wEnd) = ⟨#[123, 123, 101, 110, 100, 125, 125]⟩ := rfl
  have L1 := Lib.hid l1; have L2 := Lib.hid l2; have L3 := Lib.hid l3
  clear l1 l2 l3
  go_loop [5, 6, 21] (fun s z i => ∃ fs : List Bool, i = .int .i64 (fs.length : Int) ∧ fs.length ≤ k ∧ s = .string (bs (openT fs)) ∧ z = .string (bs (closeT fs.length))) (fun _ _ i => k - (intOf i).toNat)
  case atStart => exact ⟨[], rfl, Nat.zero_le _, rfl, rfl⟩
  case round =>
    obtain ⟨fs, rfl, hj, rfl, rfl⟩ := hrel
    have hl1 := openT_len fs
    have hl2 := closeT_len fs.length
    have hz1 : (bs (openT fs)).size = (openT fs).length := bs_size _
    have hz2 : (bs (closeT fs.length)).size = (closeT fs.length).length := bs_size _
    have hdp := deep_parse fs
    have hsn := openT_snoc fs
    have hcl := closeT_succ fs.length
    obtain ⟨S, hS⟩ : ∃ S, S = bs (openT fs) := ⟨_, rfl⟩
    obtain ⟨Z, hZ⟩ : ∃ Z, Z = bs (closeT fs.length) := ⟨_, rfl⟩
    obtain ⟨j, hjl⟩ : ∃ j, j = fs.length := ⟨_, rfl⟩
    rw [← hS] at hz1
    rw [← hZ] at hz2
    have hz1 : S.size ≤ 14 * 29 := by omega
    have hz2 : Z.size ≤ 7 * 29 := by omega
    rw [← hS, ← hZ, ← hjl]
    rw [← hjl] at hj
    have HS := Lib.hid hS; have HZ := Lib.hid hZ; have HJ := Lib.hid hjl; have HDP := Lib.hid hdp; have HSN := Lib.hid hsn; have HCL := Lib.hid hcl
    clear hS hZ hjl hdp hsn hcl hl1 hl2
    by_cases hjk : j < k
    · have tj : decide ((j : Int) < (k : Int)) = true := by rw [decide_eq_true_eq]; omega
      have o1 : ¬ 9223372036854775807 < S.size + (⟨#[123, 123, 105, 102, 32, 97, 125, 125]⟩ : ByteArray).size := by rw [show (⟨#[123, 123, 105, 102, 32, 97, 125, 125]⟩ : ByteArray).size = 8 from rfl]; omega
      have o2 : ¬ 9223372036854775807 < S.size + (⟨#[123, 123, 102, 111, 114, 32, 120, 32, 105, 110, 32, 97, 125, 125]⟩ : ByteArray).size := by rw [show (⟨#[123, 123, 102, 111, 114, 32, 120, 32, 105, 110, 32, 97, 125, 125]⟩ : ByteArray).size = 14 from rfl]; omega
      have o3 : ¬ 9223372036854775807 < (⟨#[123, 123, 101, 110, 100, 125, 125]⟩ : ByteArray).size + Z.size := by rw [show (⟨#[123, 123, 101, 110, 100, 125, 125]⟩ : ByteArray).size = 7 from rfl]; omega
      go_wp2_with fail
      · exact ⟨⟨fs ++ [true], by rw [List.length_append, List.length_singleton, ← HJ.out]; go_num, by rw [List.length_append, List.length_singleton, ← HJ.out]; omega, by rw [HSN.out true, ← bs_cat, ← HS.out]; rfl, by rw [List.length_append, List.length_singleton, HCL.out, ← bs_cat, ← HZ.out]; rfl⟩, by simp [intOf]; omega⟩
      · exact ⟨⟨fs ++ [false], by rw [List.length_append, List.length_singleton, ← HJ.out]; go_num, by rw [List.length_append, List.length_singleton, ← HJ.out]; omega, by rw [HSN.out false, ← bs_cat, ← HS.out]; rfl, by rw [List.length_append, List.length_singleton, HCL.out, ← bs_cat, ← HZ.out]; rfl⟩, by simp [intOf]; omega⟩
    · obtain rfl : j = k := by omega
      have tj : decide ((j : Int) < (j : Int)) = false := by rw [decide_eq_false_iff_not]; omega
      have o1 : ¬ 9223372036854775807 < S.size + Z.size := by omega
      have hT : S ++ Z = bs (openT fs ++ closeT fs.length) := by rw [← bs_cat, ← HS.out, ← HZ.out]
      have hdp := HDP.out (by rw [← HJ.out]; exact hk29)
      rw [← HJ.out] at hdp
      have hlen : (openT fs ++ closeT fs.length).length ≤ 609 := by
        have := openT_len fs
        have := closeT_len fs.length
        have := HJ.out
        rw [List.length_append]; omega
      rw [← HJ.out] at hT hlen
      obtain ⟨X, hX⟩ : ∃ X, X = openT fs ++ closeT j := ⟨_, rfl⟩
      rw [← hX] at hT hlen hdp
      have H16 := Lib.hid (fun W hW => parse_any X W hW)
      have H17 := Lib.hid (fun W => parseR_any X W (by omega))
      have hsz := parseL_sz X
      have herr : ((parseL X).err = 0 ∧ (parseL X).pos = 0) ∨ (parseL X).err = 180 ∨ ((parseL X).err ≠ 0 ∧ (parseL X).err ≠ 180) := by
        by_cases h0 : (parseL X).err = 0
        · obtain ⟨_, h2⟩ := parseL_ok X h0
          rcases nestL_err ((lexL X).out.map toPc) X.length with h | h
          · exact .inl (by rw [h2]; exact h)
          · rw [← h2, h0] at h; exact absurd h.1 (by decide)
        · by_cases h1 : (parseL X).err = 180
          · exact .inr (.inl h1)
          · exact .inr (.inr ⟨h0, h1⟩)
      obtain ⟨R, hR⟩ : ∃ R, R = parseL X := ⟨_, rfl⟩
      simp only [← hR] at H16 H17 hsz hdp
      rw [← hT] at H16 H17
      clear hR herr hX hT HS HZ HSN HCL HDP L1 L2 L3 HJ hlen
      obtain ⟨out, pos, err⟩ := R
      dsimp only at H16 H17 hsz hdp
      have HSZ := Lib.hid hsz
      have hs1 := B1.out.size
      by_cases h12 : 12 < j
      · have t12 : decide ((j : Int) > 12) = true := by rw [decide_eq_true_eq]; omega
        obtain rfl := hdp.1 h12
        clear hdp hsz
        go_wp2_with fail
        refine (H16.out _ (HT.out.below B1.out)).mono ?_
        rintro e w2 ⟨v, rfl, hp, b2⟩
        have HP := Lib.hid hp; have B12 := Lib.hid (B1.out.trans (b2.mono hs1))
        have hs2 := b2.size
        clear hp b2
        go_wp2_with (go_at_call 17; refine (H17.out _).mono ?_; rintro e w3 ⟨v', rfl, hp', b3⟩)
        have hs3 := b3.size
        have H18 := Lib.hid (sameT_any 120001 out _ _ v v' w3 (by have := HSZ.out; omega) (by decide) (HP.out.below b3 (fun _ h => h)) hp' (fun b h => by omega) (fun b h => h))
        have B13 := Lib.hid (B12.out.trans (b3.mono (by omega)))
        have HP3 := Lib.hid (HP.out.below b3 (fun _ h => h))
        clear hp' b3 HP
        go_wp2_with (go_at_call 18; refine H18.out.mono ?_; rintro e w4 ⟨rfl, b4⟩)
        go_ret
        exact ⟨rfl, B13.out.trans (b4.mono (by omega))⟩
      · have t12 : decide ((j : Int) > 12) = false := by rw [decide_eq_false_iff_not]; omega
        obtain ⟨rfl, hd⟩ := hdp.2 (by omega)
        have HD := Lib.hid hd
        clear hdp hsz hd
        go_wp2_with fail
        refine (H16.out _ (HT.out.below B1.out)).mono ?_
        rintro e w2 ⟨v, rfl, hp, b2⟩
        have HP := Lib.hid hp; have B12 := Lib.hid (B1.out.trans (b2.mono hs1))
        have hs2 := b2.size
        clear hp b2
        go_wp2_with (go_at_call 17; refine (H17.out _).mono ?_; rintro e w3 ⟨v', rfl, hp', b3⟩)
        have hs3 := b3.size
        have H18 := Lib.hid (sameT_any 120001 out _ _ v v' w3 (by have := HSZ.out; omega) (by decide) (HP.out.below b3 (fun _ h => h)) hp' (fun b h => by omega) (fun b h => h))
        have B13 := Lib.hid (B12.out.trans (b3.mono (by omega)))
        have HP3 := Lib.hid (HP.out.below b3 (fun _ h => h))
        clear hp' b3 HP
        have H21 := Lib.hid (fun (W : World) (hb : Below w3.heap.size w3 W) => depth_any 120001 out _ v W (by have := HSZ.out; omega) (by decide) (HP3.out.below hb (fun b h => by omega)) (fun b h => by have := hb.size; omega))
        rw [HD.out] at H21
        go_wp2_with (first | (go_at_call 18; refine H18.out.mono ?_; rintro e w4 ⟨rfl, b4⟩; have B34 := Lib.hid b4; clear b4) | (go_at_call 21; refine (H21.out _ B34.out).mono ?_; rintro e w5 ⟨rfl, b5⟩))
        go_ret
        have := B34.out.size
        exact ⟨rfl, B13.out.trans ((B34.out.mono (by omega)).trans (b5.mono (by omega)))⟩
end Go.Proofs.YthilkpjdfjjikaaDoor
