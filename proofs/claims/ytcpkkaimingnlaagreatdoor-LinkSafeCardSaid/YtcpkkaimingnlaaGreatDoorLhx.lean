/-
  Two hexadecimal digits, as Go's library reads them; link.hex.
-/
import Derived.Test.YtcpkkaimingnlaaGreatDoorLsm
import Derived.Test.YtcpkkaimingnlaaGreatDoorShelf
import Derived.Lib.SmallJoins
namespace Go.Proofs.YtcpkkaimingnlaaGreatDoor
open Go.RowKit

theorem or32 : ∀ i : Fin 256, hexB (UInt8.ofNat i.val) = true → digB (UInt8.ofNat i.val) = false → bits BinOp.or IntKind.u8 (i.val : Int) 32 = ((hexV (UInt8.ofNat i.val) + 87 : Nat) : Int) := by decide +kernel
theorem hexV_lt {c : UInt8} (h : hexB c = true) : hexV c < 16 := by
  rw [hexB_iff] at h
  unfold hexV
  (repeat' split) <;> omega
set_option maxHeartbeats 1000000 in
theorem lower_any (c : UInt8) (hc : hexB c = true) (hd : digB c = false) (w : World) : Calls Tryz.prog 125 #[u8v c] w fun e w' => e = .returned (.int .u8 ((hexV c + 87 : Nat) : Int)) ∧ w' = w := by
  have hl := c.toNat_lt
  have ho := or32 ⟨c.toNat, by omega⟩
  have e : UInt8.ofNat (Fin.val (⟨c.toNat, by omega⟩ : Fin 256)) = c := by simp
  rw [e] at ho
  have ho := ho hc hd
  unfold u8v
  have ho : bits BinOp.or IntKind.u8 ((c.toNat : Nat) : Int) 32 = ((hexV c + 87 : Nat) : Int) := ho
  generalize hexV c + 87 = r at *
  generalize c.toNat = n at *
  clear e hc hd
  go_enter Tryz.func125, Tryz.ntmps125
  go_wp2_with fail
  go_ret
  exact ⟨rfl, rfl⟩
/-- What two digits read as, so far. -/
def hexAt (a b : UInt8) : Nat → Nat
  | 0 => 0
  | 1 => hexV a
  | _ => 16 * hexV a + hexV b
set_option maxHeartbeats 8000000 in
set_option maxRecDepth 100000 in
theorem pu16_any (a b : UInt8) (ha : hexB a = true) (hb : hexB b = true) (w : World) :
    Calls Tryz.prog 109 #[.string (bs [a, b]), .int .i64 16, .int .i64 8] w fun e w' => e = .returned (.tuple #[.int .u64 ((16 * hexV a + hexV b : Nat) : Int), .nilIface]) ∧ Below w.heap.size w w' := by
  have hz : (bs [a, b]).size = 2 := rfl
  have hne : ((bs [a, b]).toList == []) = false := by rw [bs_toList]; rfl
  have hne2 : (bs [a, b]).toList = [] ↔ False := by rw [bs_toList]; simp
  have qe : (bs [a, b]).toList.isEmpty = false := by rw [bs_toList]; rfl
  have hcv := Lib.run_convert_string_bytes (P := Tryz.prog) w 9 46 5 (bs [a, b]) (u := .string) Tryz.underlying9 Tryz.underlying46 Tryz.underlying5
  have hB : ∀ j, j < 2 → (Lib.bytesWorld w 5 (bs [a, b])).cell? ⟨w.heap.size, j, none⟩ = some (.int .u8 (([a, b].getD j 0).toNat : Int)) := fun j hj => Lib.bytesWorld_cell w 5 (bs [a, b]) j hj
  have hBe : Below w.heap.size w (Lib.bytesWorld w 5 (bs [a, b])) := Go.Joins.below_bytesWorld _ w 5 (bs [a, b]) (Nat.le_refl _)
  obtain ⟨cap, hcap⟩ : ∃ cap, cap = grownCap w (bs [a, b]).size 0 5 := ⟨_, rfl⟩
  rw [← hcap] at hcv
  obtain ⟨W1, hW1⟩ : ∃ W1, W1 = Lib.bytesWorld w 5 (bs [a, b]) := ⟨_, rfl⟩
  rw [← hW1] at hcv hB hBe
  have b0 := hB 0 (by decide); have b1 := hB 1 (by decide)
  have b0 : W1.cell? ⟨w.heap.size, 0, none⟩ = some (.int .u8 ((a.toNat : Nat) : Int)) := b0
  have b1 : W1.cell? ⟨w.heap.size, 1, none⟩ = some (.int .u8 ((b.toNat : Nat) : Int)) := b1
  rw [hz] at hcv
  obtain ⟨S, hS⟩ : ∃ S, S = bs [a, b] := ⟨_, rfl⟩
  rw [← hS] at hz hne hne2 qe hcv ⊢
  have HBE := Lib.hid hBe; have HB0 := Lib.hid b0; have HB1 := Lib.hid b1
  obtain ⟨g, hg⟩ : ∃ g, g = w.heap.size := ⟨_, rfl⟩
  rw [← hg] at hcv HB0 HB1
  have Hg := Lib.hid hg
  clear hcap hW1 hB hBe hS b0 b1 hg
  have hmv : IntKind.u64.wrap (256 - 1) = 255 := by rw [IntKind.wrap_u64]; decide
  go_enter Tryz.func109, Tryz.ntmps109
  go_wp2_with fail
  go_loop [12, 13, 101] (fun vu vn vi => ∃ (k : Nat) (x : Int), vu = .bool false ∧ vn = .int .u64 x ∧ vi = .int .i64 (k : Int) ∧ k ≤ 2 ∧ Hid (x = ((hexAt a b k : Nat) : Int))) (fun _ _ vi => 2 - (intOf vi).toNat)
  case atStart => exact ⟨0, 0, rfl, rfl, rfl, by omega, rfl⟩
  case round =>
    obtain ⟨k, x, rfl, rfl, rfl, hk, hx⟩ := hrel
    by_cases hk2 : k < 2
    · have tk : decide ((k : Int) < 2) = true := by rw [decide_eq_true_eq]; omega
      obtain ⟨c, hc, hcell, hnx, hx0, hx1⟩ : ∃ c, hexB c = true ∧ W1.cell? ⟨g, k, none⟩ = some (.int .u8 ((c.toNat : Nat) : Int)) ∧ ((hexAt a b (k + 1) : Nat) : Int) = x * 16 + hexV c ∧ 0 ≤ x ∧ x ≤ 15 := by
        have va := hexV_lt ha
        have hx := hx.out
        rcases (by omega : k = 0 ∨ k = 1) with rfl | rfl
        · exact ⟨a, ha, HB0.out, by rw [hx]; show ((hexV a : Nat) : Int) = ((0 : Nat) : Int) * 16 + _; omega, by rw [hx]; exact Int.le_refl _, by rw [hx]; show ((0 : Nat) : Int) ≤ 15; omega⟩
        · exact ⟨b, hb, HB1.out, by rw [hx]; show ((16 * hexV a + hexV b : Nat) : Int) = ((hexV a : Nat) : Int) * 16 + _; omega, by rw [hx]; show (0 : Int) ≤ ((hexV a : Nat) : Int); omega, by rw [hx]; show ((hexV a : Nat) : Int) ≤ 15; omega⟩
      have HNX := Lib.hid hnx
      have hv := hexV_lt hc
      have hcl := c.toNat_lt
      clear hx hnx
      cases hd : digB c with
      | true =>
        have hd2 := hd
        unfold digB at hd2
        simp only [Bool.and_eq_true, decide_eq_true_eq] at hd2
        have hvc : hexV c = c.toNat - 48 := by unfold hexV; rw [if_pos (by omega)]
        obtain ⟨n, hn⟩ : ∃ n : Int, n = ((c.toNat : Nat) : Int) := ⟨_, rfl⟩
        rw [← hn] at hcell
        have n0 : 48 ≤ n := by omega
        have n1 : n ≤ 57 := by omega
        have hvn : (hexV c : Int) = n - 48 := by omega
        have HVN := Lib.hid hvn
        have e95 : (n == 95) = false := by rw [beq_eq_false_iff_ne]; omega
        clear hd hd2 hvc hn hvn hc hcl hv
        go_wp2_with fail
        exact ⟨⟨k + 1, x * 16 + (n - 48), rfl, rfl, by go_num, by omega, by show x * 16 + (n - 48) = _; rw [HNX.out, HVN.out]⟩, by simp [intOf]; omega⟩
      | false =>
        have hlow := lower_any c hc hd
        have hvv : 10 ≤ hexV c := by
          rw [hexB_iff] at hc
          have hd2 : ¬ (48 ≤ c.toNat ∧ c.toNat ≤ 57) := by
            intro h; unfold digB at hd; rw [Bool.and_eq_false_iff, decide_eq_false_iff_not, decide_eq_false_iff_not] at hd; omega
          unfold hexV
          (repeat' split) <;> omega
        have hn2 : 58 ≤ c.toNat ∧ c.toNat ≤ 102 := by
          rw [hexB_iff] at hc
          have hd2 : ¬ (48 ≤ c.toNat ∧ c.toNat ≤ 57) := by
            intro h; unfold digB at hd; rw [Bool.and_eq_false_iff, decide_eq_false_iff_not, decide_eq_false_iff_not] at hd; omega
          omega
        have hn95 : c.toNat ≠ 95 := by rw [hexB_iff] at hc; omega
        unfold u8v at hlow
        obtain ⟨y, hy⟩ : ∃ y : Int, y = ((hexV c + 87 : Nat) : Int) := ⟨_, rfl⟩
        simp only [← hy] at hlow
        obtain ⟨n, hn⟩ : ∃ n : Int, n = ((c.toNat : Nat) : Int) := ⟨_, rfl⟩
        rw [← hn] at hcell
        simp only [← hn] at hlow
        have n0 : 58 ≤ n := by omega
        have n1 : n ≤ 102 := by omega
        have y0 : 97 ≤ y := by omega
        have y1 : y ≤ 102 := by omega
        have hvn : (hexV c : Int) = y - 97 + 10 := by omega
        have HVN := Lib.hid hvn; have HL := Lib.hid hlow
        have e95 : (n == 95) = false := by rw [beq_eq_false_iff_ne]; omega
        clear hd hvv hn2 hn95 hn hvn hc hcl hv hlow hy
        go_wp2_with (go_at_call 125; refine (HL.out _).mono ?_; rintro e w9 ⟨rfl, rfl⟩)
        exact ⟨⟨k + 1, x * 16 + (y - 97 + 10), rfl, rfl, by go_num, by omega, by show x * 16 + (y - 97 + 10) = _; rw [HNX.out, HVN.out]⟩, by simp [intOf]; omega⟩
    · obtain rfl : k = 2 := by omega
      have tk : decide (((2 : Nat) : Int) < 2) = false := by decide
      have hx2 := hx.out
      have HX := Lib.hid hx2
      clear hx2 hx
      go_wp2_with fail
      go_ret2
      exact ⟨by rw [HX.out]; rfl, HBE.out⟩
end Go.Proofs.YtcpkkaimingnlaaGreatDoor
