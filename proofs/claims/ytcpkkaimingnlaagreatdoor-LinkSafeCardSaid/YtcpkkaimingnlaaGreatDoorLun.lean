/-
  The document's small functions: letter, until.
-/
import Derived.Test.YtcpkkaimingnlaaGreatDoorLsm
namespace Go.Proofs.YtcpkkaimingnlaaGreatDoor
open Go.RowKit

set_option maxHeartbeats 1000000 in
theorem rletter_any (c : UInt8) (w : World) : Calls Tryz.prog 49 #[u8v c] w fun e w' => e = .returned (.bool (alB c)) ∧ w' = w := by
  have hl := c.toNat_lt
  unfold u8v
  obtain ⟨n, hn⟩ : ∃ n, n = c.toNat := ⟨_, rfl⟩
  have hb : alB c = (decide (97 ≤ n) && decide (n ≤ 122) || decide (65 ≤ n) && decide (n ≤ 90) || decide (48 ≤ n) && decide (n ≤ 57)) := by unfold alB; rw [hn]
  rw [hb, ← hn]
  clear hb hn
  go_enter Tryz.func49, Tryz.ntmps49
  go_wp2_with fail
  all_goals go_ret
  all_goals refine ⟨congrArg (fun b => Ending.returned (Value.bool b)) ?_, rfl⟩
  all_goals rw [Bool.eq_iff_iff]
  all_goals simp
  all_goals omega

theorem stop_at (ch s : Bs) (j : Nat) (hj : j < s.length) (h1 : ∀ x ∈ s.take j, out ch x = true) (h2 : out ch (s.getD j 0) = false) : stop ch s = j := by
  have h := tw_app (p := out ch) (a := s.take j) (b := s.drop j) h1 (fun y r hy => by
    rw [List.drop_eq_getElem_cons hj] at hy
    injection hy with hy _
    rw [← hy]
    simpa [hj] using h2)
  rw [List.take_append_drop] at h
  unfold stop
  rw [h.1, List.length_take]
  omega
theorem stop_full (ch s : Bs) (h1 : ∀ x ∈ s, out ch x = true) : stop ch s = s.length := by
  unfold stop
  rw [(tw_all h1).1]
theorem out_has {ch : Bs} {x : UInt8} (k : Nat) (hk : k < ch.length) (h : x = ch.getD k 0) : out ch x = false := by
  unfold out
  have hm : x ∈ ch := by
    rw [h, List.getD_eq_getElem?_getD, List.getElem?_eq_getElem hk]
    exact List.getElem_mem hk
  simp [hm]
theorem out_not {ch : Bs} {x : UInt8} (h : ∀ y ∈ ch.take ch.length, y ≠ x) : out ch x = true := by
  unfold out
  rw [List.take_length] at h
  simp
  exact fun hm => h x hm rfl
theorem all_succ {p : UInt8 → Prop} {s : Bs} {j : Nat} (hj : j < s.length) (h : ∀ x ∈ s.take j, p x) (h2 : p (s.getD j 0)) : ∀ x ∈ s.take (j + 1), p x := by
  intro x hx
  rw [List.take_succ_eq_append_getElem hj] at hx
  rcases List.mem_append.1 hx with hx | hx
  · exact h x hx
  · rw [List.mem_singleton.1 hx]
    simpa [hj] using h2
set_option maxHeartbeats 8000000 in
set_option maxRecDepth 100000 in
theorem until_any (s ch : Bs) (w : World) (hl : s.length ≤ 1000000) (hc : ch.length ≤ 1000000) :
    Calls Tryz.prog 47 #[.string (bs s), .string (bs ch)] w fun e w' => e = .returned (.int .i64 ((stop ch s : Nat) : Int)) ∧ Below w.heap.size w w' := by
  have hz : (bs s).size = s.length := bs_size s
  have hzc : (bs ch).size = ch.length := bs_size ch
  have HX := Lib.hid (fun (i : Nat) (h : i < s.length) (w : World) => str_byte s i h w)
  have HY := Lib.hid (fun (i : Nat) (h : i < ch.length) (w : World) => str_byte ch i h w)
  obtain ⟨R, hR⟩ : ∃ R, R = stop ch s := ⟨_, rfl⟩
  rw [← hR]
  obtain ⟨S, hS⟩ : ∃ S, S = bs s := ⟨_, rfl⟩
  obtain ⟨C, hC⟩ : ∃ C, C = bs ch := ⟨_, rfl⟩
  rw [← hS] at hz ⊢
  rw [← hC] at hzc ⊢
  simp only [← hS] at HX
  simp only [← hC] at HY
  obtain ⟨n, hn⟩ : ∃ n, n = s.length := ⟨_, rfl⟩
  obtain ⟨m, hm⟩ : ∃ m, m = ch.length := ⟨_, rfl⟩
  rw [← hn] at hz hl
  rw [← hm] at hzc hc
  have HR := Lib.hid hR; have Hn := Lib.hid hn; have Hm := Lib.hid hm
  clear hS hC hn hm hR
  go_enter Tryz.func47, Tryz.ntmps47
  go_wp2_with fail
  go_loopw [5] (fun i wr => ∃ j : Nat, i = .int .i64 (j : Int) ∧ j ≤ n ∧ Hid (∀ x ∈ s.take j, out ch x = true) ∧ Hid (Below w.heap.size w wr)) (fun i _ => n - (intOf i).toNat)
  case atStart => exact ⟨0, rfl, Nat.zero_le _, Lib.hid (by simp), Lib.hid (Below.refl _ _)⟩
  case round =>
    obtain ⟨j, rfl, hj, HO, HB⟩ := hrel
    by_cases hjn : j < n
    · have tj : decide ((j : Int) < (n : Int)) = true := by rw [decide_eq_true_eq]; omega
      have hjl : j < s.length := by rw [← Hn.out]; omega
      have hx := fun W => HX.out j hjl W
      have Hjl := Lib.hid hjl
      clear hjl
      obtain ⟨y, hy⟩ : ∃ y, y = s.getD j 0 := ⟨_, rfl⟩
      rw [← hy] at hx
      have Hy := Lib.hid hy
      clear hy
      obtain ⟨yn, hyn⟩ : ∃ yn : Int, yn = ((y.toNat : Nat) : Int) := ⟨_, rfl⟩
      rw [← hyn] at hx
      have Hyn := Lib.hid hyn
      clear hyn
      go_wp2_with fail
      go_loopw [6] (fun i wr => ∃ k : Nat, i = .int .i64 (k : Int) ∧ k ≤ m ∧ Hid (∀ x ∈ ch.take k, x ≠ y) ∧ Hid (Below w.heap.size w wr)) (fun i _ => m - (intOf i).toNat)
      case atStart => exact ⟨0, rfl, Nat.zero_le _, Lib.hid (by simp), HB⟩
      case round =>
        obtain ⟨k, rfl, hk, HK, HB2⟩ := hrel
        by_cases hkm : k < m
        · have tk : decide ((k : Int) < (m : Int)) = true := by rw [decide_eq_true_eq]; omega
          have hkl : k < ch.length := by rw [← Hm.out]; omega
          have hxk := fun W => HY.out k hkl W
          by_cases he : y = ch.getD k 0
          · have te : (yn == (((ch.getD k 0).toNat : Nat) : Int)) = true := by rw [beq_iff_eq, Hyn.out, he]
            generalize (((ch.getD k 0).toNat : Nat) : Int) = zn at *
            have HE := Lib.hid he
            have Hkl := Lib.hid hkl
            clear he hkl
            go_wp2_with fail
            go_quiet (fail)
            go_wp2_with fail
            go_ret
            exact ⟨by rw [HR.out, stop_at ch s j Hjl.out HO.out (by rw [← Hy.out]; exact out_has k Hkl.out HE.out)]; rfl, below_drewN HB2.out _⟩
          · have te : (yn == (((ch.getD k 0).toNat : Nat) : Int)) = false := by
              rw [beq_eq_false_iff_ne, Hyn.out]
              intro h
              apply he
              rw [← UInt8.toNat_inj]
              omega
            have HK2 := Lib.hid (all_succ (p := fun x => x ≠ y) hkl HK.out (fun h => he h.symm))
            generalize (((ch.getD k 0).toNat : Nat) : Int) = zn at *
            clear he hkl
            go_wp2_with fail
            go_quiet (fail)
            go_wp2_with fail
            exact ⟨⟨k + 1, by go_num, by omega, HK2, Lib.hid (below_drewN HB2.out _)⟩, by simp [intOf]; omega⟩
        · have tk : decide ((k : Int) < (m : Int)) = false := by rw [decide_eq_false_iff_not]; omega
          have hkm' : k = m := by omega
          have HO2 := Lib.hid (all_succ (p := fun x => out ch x = true) Hjl.out HO.out (by rw [← Hy.out]; exact out_not (by rw [← Hm.out, ← hkm']; exact HK.out)))
          clear hkm'
          go_wp2_with fail
          exact ⟨⟨j + 1, by go_num, by omega, HO2, HB2⟩, by simp [intOf]; omega⟩
    · have tj : decide ((j : Int) < (n : Int)) = false := by rw [decide_eq_false_iff_not]; omega
      have hjn' : j = s.length := by rw [← Hn.out]; omega
      have hf := HO.out
      rw [hjn', List.take_length] at hf
      have hRR : R = s.length := by rw [HR.out, stop_full ch s hf]
      rw [← Hn.out] at hRR
      have HRR := Lib.hid hRR
      clear hRR hf hjn'
      go_wp2_with fail
      go_ret
      exact ⟨by rw [HRR.out]; rfl, HB.out⟩
end Go.Proofs.YtcpkkaimingnlaaGreatDoor
