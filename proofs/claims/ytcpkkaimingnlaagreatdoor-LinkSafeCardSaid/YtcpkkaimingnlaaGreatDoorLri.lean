/-
  link.right, walked.
-/
import Derived.Test.YtcpkkaimingnlaaGreatDoorLhe
namespace Go.Proofs.YtcpkkaimingnlaaGreatDoor
open Go.RowKit

set_option maxHeartbeats 8000000 in
set_option maxRecDepth 100000 in
theorem right_any (s : Bs) (w : World) (hl : s.length ≤ 1000000) :
    Calls Tryz.prog 45 #[.string (bs s)] w fun e w' => e = .returned (.bool (rightL s)) ∧ Below w.heap.size w w' := by
  have hz : (bs s).size = s.length := bs_size s
  have HX := Lib.hid (fun (i : Nat) (h : i < s.length) (w : World) => str_byte s i h w)
  have HF := Lib.hid (fun (i : Nat) (h : i ≤ s.length) (w : World) => str_from s i h w)
  have H84 := Lib.hid (fun (i : Nat) (W : World) => hex_any (s.drop i) W (by rw [List.length_drop]; omega))
  obtain ⟨R, hR⟩ : ∃ R, R = rightL s := ⟨_, rfl⟩
  rw [← hR]
  obtain ⟨S, hS⟩ : ∃ S, S = bs s := ⟨_, rfl⟩
  rw [← hS] at hz ⊢
  simp only [← hS] at HX HF
  obtain ⟨n, hn⟩ : ∃ n, n = s.length := ⟨_, rfl⟩
  rw [← hn] at hz hl
  have HR := Lib.hid hR; have Hn := Lib.hid hn
  clear hR hS hn
  go_enter Tryz.func45, Tryz.ntmps45
  go_wp2_with fail
  go_loopw [7] (fun i wr => ∃ j : Nat, i = .int .i64 (j : Int) ∧ j ≤ n ∧ R = rightL (s.drop j) ∧ Below w.heap.size w wr) (fun i _ => n - (intOf i).toNat)
  case atStart => exact ⟨0, rfl, Nat.zero_le _, HR.out, Below.refl _ _⟩
  case round =>
    obtain ⟨j, rfl, hj, hRj, hbr⟩ := hrel
    have HB := Lib.hid hbr; have HRj := Lib.hid hRj
    clear hbr hRj
    by_cases hjn : j < n
    · have tj : decide ((j : Int) < (n : Int)) = true := by rw [decide_eq_true_eq]; omega
      have hjl : j < s.length := by rw [← Hn.out]; exact hjn
      have hx := fun W => HX.out j hjl W
      have hf := fun W => HF.out (j + 1) hjl W
      have h84 := fun W => H84.out (j + 1) W
      have hd : s.drop j = s.getD j 0 :: s.drop (j + 1) := by rw [List.drop_eq_getElem_cons hjl]; simp [hjl]
      obtain ⟨c, hc⟩ : ∃ c, c = s.getD j 0 := ⟨_, rfl⟩
      obtain ⟨r, hr⟩ : ∃ r, r = s.drop (j + 1) := ⟨_, rfl⟩
      have hst : R = (okB c && (c != 37 || hex2 r) && rightL r) := by rw [HRj.out, hd, ← hc, ← hr]; rfl
      simp only [← hc] at hx
      simp only [← hr] at hf h84
      have hmk := idx_marks ⟨c.toNat, c.toNat_lt⟩
      rw [fin_byte] at hmk
      have h64 := fun W => Tryz.strings_IndexByte (bs marksB) ((c.toNat : Nat) : Int) W
      simp only [byte_back] at h64
      have e1 : (bs marksB).data.toList = marksB := rfl
      have e2 : bs marksB = ⟨#[34, 60, 62, 92, 94, 96, 123, 124, 125]⟩ := rfl
      rw [e1, e2] at h64
      have hneg := hexZ_neg r
      have h37 : ((c.toNat : Int) == 37) = (c == 37) := u8_beq c 37 37 rfl
      have hok : okB c = (decide (33 ≤ c.toNat) && decide (c.toNat ≤ 126) && !marksB.contains c) := rfl
      have hcl := c.toNat_lt
      have hcast : IntKind.i64.wrap ((j : Int) + 1) = (j : Int) + 1 := IntWalk.i64_in _ (by omega)
      obtain ⟨ix, hix⟩ : ∃ ix, ix = Lib.indexByte marksB c := ⟨_, rfl⟩
      simp only [← hix] at h64 hmk
      obtain ⟨hv, hhv⟩ : ∃ hv, hv = hexZ r := ⟨_, rfl⟩
      simp only [← hhv] at h84 hneg
      obtain ⟨T, hT⟩ : ∃ T, T = bs r := ⟨_, rfl⟩
      simp only [← hT] at hf h84
      have hf : ∀ W, (Instr.slice 9 (.string S) (some (.int .i64 ((j : Int) + 1))) none none).run Tryz.prog W = .ok (.string T) W := hf
      obtain ⟨mk, hmkv⟩ : ∃ mk, mk = marksB.contains c := ⟨_, rfl⟩
      rw [← hmkv] at hmk hok
      obtain ⟨c37, hc37⟩ : ∃ c37, c37 = (c == 37) := ⟨_, rfl⟩
      have hne : (c != 37) = !c37 := by rw [hc37]; rfl
      rw [← hc37] at h37
      rw [hne, hok] at hst
      obtain ⟨x2, hx2⟩ : ∃ x2, x2 = hex2 r := ⟨_, rfl⟩
      rw [← hx2] at hst hneg
      have HDR : Hid (rightL r = rightL (s.drop (j + 1))) := by rw [hr]; exact rfl
      obtain ⟨m, hm⟩ : ∃ m, m = c.toNat := ⟨_, rfl⟩
      rw [← hm] at hst h37 hcl
      simp only [← hm] at hx h64
      have HST := Lib.hid hst; have H64 := Lib.hid h64; have H84' := Lib.hid h84
      clear hst h64 h84 hd hc hr hix hhv hT hmkv hc37 hx2 hm e1 e2 hne hok hjl
      have hmx : (m : Int) < 256 := by omega
      by_cases h1 : m < 33
      · have t1 : decide ((m : Int) < 33) = true := by rw [decide_eq_true_eq]; omega
        have hr0 : R = false := by rw [HST.out, decide_eq_false (by omega)]; rfl
        have HR0 := Lib.hid hr0
        clear hr0 hmk hneg h37 hf
        go_wp2_with fail
        go_ret
        exact ⟨by rw [HR0.out]; rfl, HB.out⟩
      · have t1 : decide ((m : Int) < 33) = false := by rw [decide_eq_false_iff_not]; omega
        by_cases h2 : 126 < m
        · have t2 : decide ((m : Int) > 126) = true := by rw [decide_eq_true_eq]; omega
          have hr0 : R = false := by rw [HST.out, decide_eq_false (show ¬ m ≤ 126 by omega)]; simp
          have HR0 := Lib.hid hr0
          clear hr0 hmk hneg h37 hf
          go_wp2_with fail
          go_ret
          exact ⟨by rw [HR0.out]; rfl, HB.out⟩
        · have t2 : decide ((m : Int) > 126) = false := by rw [decide_eq_false_iff_not]; omega
          cases mk with
          | true =>
            have hr0 : R = false := by rw [HST.out]; simp
            have HR0 := Lib.hid hr0
            clear hr0 hneg h37 hf
            go_wp2_with (go_at_call 64; refine (H64.out _).mono ?_; rintro e w' ⟨rfl, rfl⟩)
            go_ret
            exact ⟨by rw [HR0.out]; rfl, HB.out⟩
          | false =>
            have hst2 : R = ((!c37 || x2) && rightL r) := by
              rw [HST.out, decide_eq_true (show 33 ≤ m by omega), decide_eq_true (show m ≤ 126 by omega)]; simp
            have HS2 := Lib.hid hst2
            clear hst2
            cases c37 with
            | false =>
              have hr1 : R = rightL (s.drop (j + 1)) := by rw [← HDR.out, HS2.out]; simp
              have HR1 := Lib.hid hr1
              clear hr1 hneg hf
              go_wp2_with (go_at_call 64; refine (H64.out _).mono ?_; rintro e w' ⟨rfl, rfl⟩)
              exact ⟨⟨j + 1, by go_num, by omega, HR1.out, HB.out⟩, by simp [intOf]; omega⟩
            | true =>
              cases x2 with
              | true =>
                have hr1 : R = rightL (s.drop (j + 1)) := by rw [← HDR.out, HS2.out]; simp
                have HR1 := Lib.hid hr1
                clear hr1
                go_wp2_with (first | (go_at_call 64; refine (H64.out _).mono ?_; rintro e w' ⟨rfl, rfl⟩) | (go_at_call 84; refine (H84'.out _).mono ?_; rintro e w' ⟨rfl, hb8⟩))
                exact ⟨⟨j + 1, by go_num, by omega, HR1.out, HB.out.trans (hb8.mono HB.out.size)⟩, by simp [intOf]; omega⟩
              | false =>
                have hr0 : R = false := by rw [HS2.out]; rfl
                have HR0 := Lib.hid hr0
                clear hr0
                go_wp2_with (first | (go_at_call 64; refine (H64.out _).mono ?_; rintro e w' ⟨rfl, rfl⟩) | (go_at_call 84; refine (H84'.out _).mono ?_; rintro e w' ⟨rfl, hb8⟩))
                go_ret
                exact ⟨by rw [HR0.out]; rfl, HB.out.trans (hb8.mono HB.out.size)⟩
    · obtain rfl : j = n := by omega
      have tj : decide ((j : Int) < (j : Int)) = false := by rw [decide_eq_false_iff_not]; omega
      have hr1 : R = true := by rw [HRj.out, List.drop_of_length_le (by rw [← Hn.out]; exact Nat.le_refl _)]; rfl
      have HR1 := Lib.hid hr1
      clear hr1
      go_wp2_with fail
      go_ret
      exact ⟨by rw [HR1.out]; rfl, HB.out⟩
end Go.Proofs.YtcpkkaimingnlaaGreatDoor
