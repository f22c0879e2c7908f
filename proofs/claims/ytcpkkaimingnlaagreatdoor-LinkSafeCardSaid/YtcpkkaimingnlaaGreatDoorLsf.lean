/-
  link.Safe's own function, and all with it.
-/
import Derived.Test.YtcpkkaimingnlaaGreatDoorLab
namespace Go.Proofs.YtcpkkaimingnlaaGreatDoor
open Go.RowKit

def mailB (c : UInt8) : Bool := alB c || ([64, 46, 95, 43, 45] : Bs).contains c
set_option maxHeartbeats 1000000 in
theorem mail_fn (c : UInt8) (w : World) : Calls Tryz.prog 63 #[u8v c] w fun e w' => e = .returned (.bool (mailB c)) ∧ w' = w := by
  have h44 := letter_any c
  have h64 := fun W => Tryz.strings_IndexByte (bs [64, 46, 95, 43, 45]) ((c.toNat : Nat) : Int) W
  have e0 : ((c.toNat : Nat) : Int).toNat.toUInt8 = c := by simp
  have e9 : (bs [64, 46, 95, 43, 45]).data.toList = [64, 46, 95, 43, 45] := by simp [bs]
  have hcon := Lib.contains_iff_indexByte [64, 46, 95, 43, 45] c
  rw [e0, e9] at h64
  unfold mailB
  rw [hcon]
  generalize Lib.indexByte [64, 46, 95, 43, 45] c = I at *
  generalize alB c = b at *
  unfold u8v at *
  obtain ⟨n, hn⟩ : ∃ n, n = c.toNat := ⟨_, rfl⟩
  rw [← hn] at h44 h64 ⊢
  have H44 := Lib.hid h44
  have H64 := Lib.hid h64
  generalize hI : decide (0 ≤ I) = x at *
  clear h44 h64 hcon e0 e9 hn
  cases b <;> cases x
  all_goals
    go_enter Tryz.func63, Tryz.ntmps63
    go_wp2_with (first | (go_at_call 44; refine (H44.out _).mono ?_; rintro e w' ⟨rfl, rfl⟩) | (go_at_call 64; refine (H64.out _).mono ?_; rintro e w' ⟨rfl, rfl⟩))
    all_goals go_ret
    all_goals exact ⟨by simp [*], rfl⟩
set_option maxHeartbeats 2000000 in
set_option maxRecDepth 100000 in
theorem all63_any (s : Bs) (w : World) (hl : s.length ≤ 1000000) :
    Calls Tryz.prog 42 #[.string (bs s), .func (.func 63) #[] #[]] w fun e w' => e = .returned (.bool (s.all mailB)) ∧ w' = w := by
  have eg : ∀ args w, (callFunc 63 args).run Tryz.prog w = .ok (.enter 63 args) w := enters_of Tryz.func63 (by kernel_rfl) rfl
  have hz : (bs s).size = s.length := bs_size s
  have HX := Lib.hid (fun (i : Nat) (h : i < s.length) (w : World) => str_byte s i h w)
  obtain ⟨R, hR⟩ : ∃ R, R = s.all mailB := ⟨_, rfl⟩
  rw [← hR]
  obtain ⟨S, hS⟩ : ∃ S, S = bs s := ⟨_, rfl⟩
  rw [← hS] at hz ⊢
  simp only [← hS] at HX
  obtain ⟨n, hn⟩ : ∃ n, n = s.length := ⟨_, rfl⟩
  rw [← hn] at hz hl
  have HR := Lib.hid hR; have Hn := Lib.hid hn
  clear hR hS hn
  go_enter Tryz.func42, Tryz.ntmps42
  go_wp2_with fail
  go_loop [8] (fun i => ∃ j : Nat, i = .int .i64 (j : Int) ∧ j ≤ n ∧ (s.take j).all mailB = true) (fun i => n - (intOf i).toNat)
  case atStart => exact ⟨0, rfl, Nat.zero_le _, rfl⟩
  case round =>
    obtain ⟨j, rfl, hj, hall⟩ := hrel
    have HA := Lib.hid hall
    clear hall
    by_cases hjn : j < n
    · have tj : decide ((j : Int) < (n : Int)) = true := by rw [decide_eq_true_eq]; omega
      have hx := fun W => HX.out j (by rw [← Hn.out]; exact hjn) W
      have hts : s.take (j + 1) = s.take j ++ [s.getD j 0] := by
        have hjl : j < s.length := by rw [← Hn.out]; exact hjn
        rw [List.take_succ_eq_append_getElem hjl]; simp [hjl]
      have hmem : s.getD j 0 ∈ s := by
        have hjl : j < s.length := by rw [← Hn.out]; exact hjn
        simp [hjl]
      have hC := mail_fn (s.getD j 0)
      obtain ⟨c, hc⟩ : ∃ c, c = s.getD j 0 := ⟨_, rfl⟩
      rw [← hc] at hts hmem hC
      simp only [← hc] at hx
      have HTS := Lib.hid hts; have HM := Lib.hid hmem
      clear hc hts hmem
      unfold u8v at hC
      cases hp : mailB c with
      | true =>
        rw [hp] at hC
        have HC := Lib.hid hC
        have e1 : (s.take (j + 1)).all mailB = true := by rw [HTS.out, List.all_append, HA.out]; simp [hp]
        have E1 := Lib.hid e1
        clear e1 hC hp
        go_wp2_with (go_at_fn 63; refine (HC.out _).mono ?_; rintro e w9 ⟨rfl, rfl⟩)
        exact ⟨⟨j + 1, by go_num, by omega, E1.out⟩, by simp [intOf]; omega⟩
      | false =>
        rw [hp] at hC
        have HC := Lib.hid hC
        have e1 : R = false := by
          rw [HR.out]
          cases h : s.all mailB with
          | false => rfl
          | true => exact absurd (List.all_eq_true.1 h c HM.out) (by rw [hp]; decide)
        have E1 := Lib.hid e1
        clear e1 hC hp
        go_wp2_with (go_at_fn 63; refine (HC.out _).mono ?_; rintro e w9 ⟨rfl, rfl⟩)
        go_ret
        exact ⟨by rw [E1.out]; rfl, rfl⟩
    · obtain rfl : j = n := by omega
      have tj : decide ((j : Int) < (j : Int)) = false := by rw [decide_eq_false_iff_not]; omega
      have e1 : R = true := by
        rw [HR.out]
        have := HA.out
        rwa [List.take_of_length_le (by rw [← Hn.out]; exact Nat.le_refl _)] at this
      have E1 := Lib.hid e1
      clear e1
      go_wp2_with fail
      go_ret
      exact ⟨by rw [E1.out]; rfl, rfl⟩
end Go.Proofs.YtcpkkaimingnlaaGreatDoor
