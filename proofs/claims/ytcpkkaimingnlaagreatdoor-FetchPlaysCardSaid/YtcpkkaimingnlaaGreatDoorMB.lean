/-
  Texts of this seat, joined: Lst, Lsm, Lhx, Lhe, Lri, Lpo, Lor, Lrw, Lpr. Each says what it proves, ahead of itself.
-/
import Derived.Test.YtcpkkaimingnlaaGreatDoorProg
import Derived.Test.YtcpkkaimingnlaaGreatDoorKit
import Derived.Test.YtcpkkaimingnlaaGreatDoorMA
import Derived.Test.YtcpkkaimingnlaaGreatDoorShelf
import Derived.Lib.SmallJoins
import Derived.Lib.ParseIntB
import Derived.Laws.CopyRow
import Derived.Laws.ResultCell
import Derived.Laws.Rows
set_option linter.unusedVariables false
set_option linter.unusedSimpArgs false
section
namespace Go.Proofs.YtcpkkaimingnlaaGreatDoor
open Go.RowKit

def u8v (c : UInt8) : Value := .int .u8 ((c.toNat : Nat) : Int)
def bs (l : Bs) : ByteArray := ⟨l.toArray⟩
theorem bs_cat (a b : Bs) : bs a ++ bs b = bs (a ++ b) := by unfold bs; apply ByteArray.ext; rw [ByteArray.data_append]; simp
theorem bs_size (a : Bs) : (bs a).size = a.length := by simp [bs, ByteArray.size]
theorem bs_toList (l : Bs) : (bs l).toList = l := by rw [ByteArray.toList_eq]; rfl
theorem eq_bs (l k : Bs) : ((bs l).toList == k) = (l == k) := by rw [bs_toList]
theorem str_byte (l : Bs) (i : Nat) (h : i < l.length) (w : World) : (Instr.index 9 (.string (bs l)) (.int .i64 (i : Int))).run Tryz.prog w = .ok (.int .u8 (((l.getD i 0).toNat : Nat) : Int)) w := by
  rw [run_index_string _ _ _ _ _ Tryz.underlying9]
  have hs : (bs l).size = l.length := bs_size l
  rw [dif_pos ⟨by omega, by rw [hs]; omega⟩]
  have e : ((bs l)[(i : Int).toNat]'(by rw [hs]; omega)) = l.getD i 0 := by
    show l.toArray[(i : Int).toNat]'_ = _
    simp [h]
  rw [e]
theorem str_from (l : Bs) (m : Nat) (h : m ≤ l.length) (w : World) : (Instr.slice 9 (.string (bs l)) (some (.int .i64 (m : Int))) none none).run Tryz.prog w = .ok (.string (bs (l.drop m))) w := by
  have hs : (bs l).size = l.length := by simp [bs, ByteArray.size]
  rw [run_slice_string_from_if w 9 _ .i64 _ Tryz.underlying9]
  rw [if_pos ⟨by omega, by rw [hs]; omega⟩]
  congr 2
  apply ByteArray.ext
  rw [ByteArray.data_extract]
  apply Array.ext'
  rw [hs]
  simp only [bs, Array.toList_extract, List.extract_eq_take_drop]
  rw [List.take_of_length_le (by simp), Int.toNat_natCast]
theorem str_cut (l : Bs) (a b : Nat) (h : a ≤ b) (hb : b ≤ l.length) (w : World) : (Instr.slice 9 (.string (bs l)) (some (.int .i64 (a : Int))) (some (.int .i64 (b : Int))) none).run Tryz.prog w = .ok (.string (bs ((l.take b).drop a))) w := by
  have hs : (bs l).size = l.length := bs_size l
  rw [run_slice_string_if w 9 _ .i64 .i64 _ _ Tryz.underlying9]
  rw [if_pos ⟨by omega, by rw [hs]; omega⟩, if_pos (by omega)]
  congr 2
  apply ByteArray.ext
  rw [ByteArray.data_extract]
  apply Array.ext'
  simp only [bs, Array.toList_extract, List.extract_eq_take_drop]
  rw [Int.toNat_natCast, Int.toNat_natCast, List.drop_take]
theorem str_to (l : Bs) (m : Nat) (h : m ≤ l.length) (w : World) : (Instr.slice 9 (.string (bs l)) none (some (.int .i64 (m : Int))) none).run Tryz.prog w = .ok (.string (bs (l.take m))) w := by
  have hs : (bs l).size = l.length := bs_size l
  rw [run_slice_string_to_if w 9 _ .i64 _ Tryz.underlying9]
  rw [if_pos ⟨by omega, by rw [hs]; omega⟩]
  congr 2
  apply ByteArray.ext
  rw [ByteArray.data_extract]
  apply Array.ext'
  simp [bs, Array.toList_extract, List.extract_eq_take_drop]
end Go.Proofs.YtcpkkaimingnlaaGreatDoor
end
section
namespace Go.Proofs.YtcpkkaimingnlaaGreatDoor
open Go.RowKit

set_option maxHeartbeats 1000000 in
theorem letter_any (c : UInt8) (w : World) : Calls Tryz.prog 44 #[u8v c] w fun e w' => e = .returned (.bool (alB c)) ∧ w' = w := by
  have hl := c.toNat_lt
  unfold u8v
  obtain ⟨n, hn⟩ : ∃ n, n = c.toNat := ⟨_, rfl⟩
  have hb : alB c = (decide (97 ≤ n) && decide (n ≤ 122) || decide (65 ≤ n) && decide (n ≤ 90) || decide (48 ≤ n) && decide (n ≤ 57)) := by unfold alB; rw [hn]
  rw [hb, ← hn]
  clear hb hn
  go_enter Tryz.func44, Tryz.ntmps44
  go_wp2_with fail
  all_goals go_ret
  all_goals refine ⟨congrArg (fun b => Ending.returned (Value.bool b)) ?_, rfl⟩
  all_goals rw [Bool.eq_iff_iff]
  all_goals simp
  all_goals omega
theorem u8_beq (c d : UInt8) (k : Nat) (hd : d.toNat = k) : ((c.toNat : Int) == (k : Int)) = (c == d) := by
  subst hd
  rw [Bool.eq_iff_iff, beq_iff_eq, beq_iff_eq, ← UInt8.toNat_inj]
  omega
set_option maxHeartbeats 1000000 in
theorem host_fn (c : UInt8) (w : World) : Calls Tryz.prog 43 #[u8v c] w fun e w' => e = .returned (.bool (hostB c)) ∧ w' = w := by
  have h44 := letter_any c
  have e1 := u8_beq c 45 45 rfl
  have e2 := u8_beq c 46 46 rfl
  unfold hostB
  rw [← e1, ← e2]
  generalize alB c = b at *
  unfold u8v at *
  obtain ⟨n, hn⟩ : ∃ n, n = c.toNat := ⟨_, rfl⟩
  rw [← hn] at h44 ⊢
  have H44 := Lib.hid h44
  clear h44 e1 e2 hn
  cases b
  all_goals
    go_enter Tryz.func43, Tryz.ntmps43
    go_wp2_with (go_at_call 44; refine (H44.out _).mono ?_; rintro e w' ⟨rfl, rfl⟩)
    all_goals go_ret
    all_goals exact ⟨by simp [*], rfl⟩
set_option maxHeartbeats 2000000 in
set_option maxRecDepth 100000 in
theorem all43_any (s : Bs) (w : World) (hl : s.length ≤ 1000000) :
    Calls Tryz.prog 42 #[.string (bs s), .func (.func 43) #[] #[]] w fun e w' => e = .returned (.bool (s.all hostB)) ∧ w' = w := by
  have eg : ∀ args w, (callFunc 43 args).run Tryz.prog w = .ok (.enter 43 args) w := enters_of Tryz.func43 (by kernel_rfl) rfl
  have hz : (bs s).size = s.length := bs_size s
  have HX := Lib.hid (fun (i : Nat) (h : i < s.length) (w : World) => str_byte s i h w)
  obtain ⟨R, hR⟩ : ∃ R, R = s.all hostB := ⟨_, rfl⟩
  rw [← hR]
  obtain ⟨S, hS⟩ : ∃ S, S = bs s := ⟨_, rfl⟩
  rw [← hS] at hz ⊢
  simp only [← hS] at HX
  obtain ⟨n, hn⟩ : ∃ n, n = s.length := ⟨_, rfl⟩
  rw [← hn] at hz hl
  have HR := Lib.hid hR; have Hn := Lib.hid hn
  clear hR hS hn
  go_enter Tryz.func42, Tryz.ntmps42
  go_wp2_with fail
  go_loop [8] (fun i => ∃ j : Nat, i = .int .i64 (j : Int) ∧ j ≤ n ∧ (s.take j).all hostB = true) (fun i => n - (intOf i).toNat)
  case atStart => exact ⟨0, rfl, Nat.zero_le _, rfl⟩
  case round =>
    obtain ⟨j, rfl, hj, hall⟩ := hrel
    have HA := Lib.hid hall
    clear hall
    by_cases hjn : j < n
    · have tj : decide ((j : Int) < (n : Int)) = true := by rw [decide_eq_true_eq]; omega
      have hx := fun W => HX.out j (by rw [← Hn.out]; exact hjn) W
      have hts : s.take (j + 1) = s.take j ++ [s.getD j 0] := by
        have hjl : j < s.length := by rw [← Hn.out]; exact hjn
        rw [List.take_succ_eq_append_getElem hjl]; simp [hjl]
      have hmem : s.getD j 0 ∈ s := by
        have hjl : j < s.length := by rw [← Hn.out]; exact hjn
        simp [hjl]
      have hC := host_fn (s.getD j 0)
      obtain ⟨c, hc⟩ : ∃ c, c = s.getD j 0 := ⟨_, rfl⟩
      rw [← hc] at hts hmem hC
      simp only [← hc] at hx
      have HTS := Lib.hid hts; have HM := Lib.hid hmem
      clear hc hts hmem
      unfold u8v at hC
      cases hp : hostB c with
      | true =>
        rw [hp] at hC
        have HC := Lib.hid hC
        have e1 : (s.take (j + 1)).all hostB = true := by rw [HTS.out, List.all_append, HA.out]; simp [hp]
        have E1 := Lib.hid e1
        clear e1 hC hp
        go_wp2_with (go_at_fn 43; refine (HC.out _).mono ?_; rintro e w9 ⟨rfl, rfl⟩)
        exact ⟨⟨j + 1, by go_num, by omega, E1.out⟩, by simp [intOf]; omega⟩
      | false =>
        rw [hp] at hC
        have HC := Lib.hid hC
        have e1 : R = false := by
          rw [HR.out]
          cases h : s.all hostB with
          | false => rfl
          | true => exact absurd (List.all_eq_true.1 h c HM.out) (by rw [hp]; decide)
        have E1 := Lib.hid e1
        clear e1 hC hp
        go_wp2_with (go_at_fn 43; refine (HC.out _).mono ?_; rintro e w9 ⟨rfl, rfl⟩)
        go_ret
        exact ⟨by rw [E1.out]; rfl, rfl⟩
    · obtain rfl : j = n := by omega
      have tj : decide ((j : Int) < (j : Int)) = false := by rw [decide_eq_false_iff_not]; omega
      have e1 : R = true := by
        rw [HR.out]
        have := HA.out
        rwa [List.take_of_length_le (by rw [← Hn.out]; exact Nat.le_refl _)] at this
      have E1 := Lib.hid e1
      clear e1
      go_wp2_with fail
      go_ret
      exact ⟨by rw [E1.out]; rfl, rfl⟩
end Go.Proofs.YtcpkkaimingnlaaGreatDoor
end
section
namespace Go.Proofs.YtcpkkaimingnlaaGreatDoor
open Go.RowKit

theorem or32 : ∀ i : Fin 256, hexB (UInt8.ofNat i.val) = true → digB (UInt8.ofNat i.val) = false → bits BinOp.or IntKind.u8 (i.val : Int) 32 = ((hexV (UInt8.ofNat i.val) + 87 : Nat) : Int) := by decide +kernel
theorem hexV_lt {c : UInt8} (h : hexB c = true) : hexV c < 16 := by
  rw [hexB_iff] at h
  unfold hexV
  (repeat' split) <;> omega
set_option maxHeartbeats 1000000 in
theorem lower_any (c : UInt8) (hc : hexB c = true) (hd : digB c = false) (w : World) : Calls Tryz.prog 125 #[u8v c] w fun e w' => e = .returned (.int .u8 ((hexV c + 87 : Nat) : Int)) ∧ w' = w := by
  have hl := c.toNat_lt
  have ho := or32 ⟨c.toNat, by omega⟩
  have e : UInt8.ofNat (Fin.val (⟨c.toNat, by omega⟩ : Fin 256)) = c := by simp
  rw [e] at ho
  have ho := ho hc hd
  unfold u8v
  have ho : bits BinOp.or IntKind.u8 ((c.toNat : Nat) : Int) 32 = ((hexV c + 87 : Nat) : Int) := ho
  generalize hexV c + 87 = r at *
  generalize c.toNat = n at *
  clear e hc hd
  go_enter Tryz.func125, Tryz.ntmps125
  go_wp2_with fail
  go_ret
  exact ⟨rfl, rfl⟩
/-- What two digits read as, so far. -/
def hexAt (a b : UInt8) : Nat → Nat
  | 0 => 0
  | 1 => hexV a
  | _ => 16 * hexV a + hexV b
set_option maxHeartbeats 8000000 in
set_option maxRecDepth 100000 in
theorem pu16_any (a b : UInt8) (ha : hexB a = true) (hb : hexB b = true) (w : World) :
    Calls Tryz.prog 109 #[.string (bs [a, b]), .int .i64 16, .int .i64 8] w fun e w' => e = .returned (.tuple #[.int .u64 ((16 * hexV a + hexV b : Nat) : Int), .nilIface]) ∧ Below w.heap.size w w' := by
  have hz : (bs [a, b]).size = 2 := rfl
  have hne : ((bs [a, b]).toList == []) = false := by rw [bs_toList]; rfl
  have hne2 : (bs [a, b]).toList = [] ↔ False := by rw [bs_toList]; simp
  have qe : (bs [a, b]).toList.isEmpty = false := by rw [bs_toList]; rfl
  have hcv := Lib.run_convert_string_bytes (P := Tryz.prog) w 9 46 5 (bs [a, b]) (u := .string) Tryz.underlying9 Tryz.underlying46 Tryz.underlying5
  have hB : ∀ j, j < 2 → (Lib.bytesWorld w 5 (bs [a, b])).cell? ⟨w.heap.size, j, none⟩ = some (.int .u8 (([a, b].getD j 0).toNat : Int)) := fun j hj => Lib.bytesWorld_cell w 5 (bs [a, b]) j hj
  have hBe : Below w.heap.size w (Lib.bytesWorld w 5 (bs [a, b])) := Go.Joins.below_bytesWorld _ w 5 (bs [a, b]) (Nat.le_refl _)
  obtain ⟨cap, hcap⟩ : ∃ cap, cap = grownCap w (bs [a, b]).size 0 5 := ⟨_, rfl⟩
  rw [← hcap] at hcv
  obtain ⟨W1, hW1⟩ : ∃ W1, W1 = Lib.bytesWorld w 5 (bs [a, b]) := ⟨_, rfl⟩
  rw [← hW1] at hcv hB hBe
  have b0 := hB 0 (by decide); have b1 := hB 1 (by decide)
  have b0 : W1.cell? ⟨w.heap.size, 0, none⟩ = some (.int .u8 ((a.toNat : Nat) : Int)) := b0
  have b1 : W1.cell? ⟨w.heap.size, 1, none⟩ = some (.int .u8 ((b.toNat : Nat) : Int)) := b1
  rw [hz] at hcv
  obtain ⟨S, hS⟩ : ∃ S, S = bs [a, b] := ⟨_, rfl⟩
  rw [← hS] at hz hne hne2 qe hcv ⊢
  have HBE := Lib.hid hBe; have HB0 := Lib.hid b0; have HB1 := Lib.hid b1
  obtain ⟨g, hg⟩ : ∃ g, g = w.heap.size := ⟨_, rfl⟩
  rw [← hg] at hcv HB0 HB1
  have Hg := Lib.hid hg
  clear hcap hW1 hB hBe hS b0 b1 hg
  have hmv : IntKind.u64.wrap (256 - 1) = 255 := by rw [IntKind.wrap_u64]; decide
  go_enter Tryz.func109, Tryz.ntmps109
  go_wp2_with fail
  go_loop [12, 13, 101] (fun vu vn vi => ∃ (k : Nat) (x : Int), vu = .bool false ∧ vn = .int .u64 x ∧ vi = .int .i64 (k : Int) ∧ k ≤ 2 ∧ Hid (x = ((hexAt a b k : Nat) : Int))) (fun _ _ vi => 2 - (intOf vi).toNat)
  case atStart => exact ⟨0, 0, rfl, rfl, rfl, by omega, rfl⟩
  case round =>
    obtain ⟨k, x, rfl, rfl, rfl, hk, hx⟩ := hrel
    by_cases hk2 : k < 2
    · have tk : decide ((k : Int) < 2) = true := by rw [decide_eq_true_eq]; omega
      obtain ⟨c, hc, hcell, hnx, hx0, hx1⟩ : ∃ c, hexB c = true ∧ W1.cell? ⟨g, k, none⟩ = some (.int .u8 ((c.toNat : Nat) : Int)) ∧ ((hexAt a b (k + 1) : Nat) : Int) = x * 16 + hexV c ∧ 0 ≤ x ∧ x ≤ 15 := by
        have va := hexV_lt ha
        have hx := hx.out
        rcases (by omega : k = 0 ∨ k = 1) with rfl | rfl
        · exact ⟨a, ha, HB0.out, by rw [hx]; show ((hexV a : Nat) : Int) = ((0 : Nat) : Int) * 16 + _; omega, by rw [hx]; exact Int.le_refl _, by rw [hx]; show ((0 : Nat) : Int) ≤ 15; omega⟩
        · exact ⟨b, hb, HB1.out, by rw [hx]; show ((16 * hexV a + hexV b : Nat) : Int) = ((hexV a : Nat) : Int) * 16 + _; omega, by rw [hx]; show (0 : Int) ≤ ((hexV a : Nat) : Int); omega, by rw [hx]; show ((hexV a : Nat) : Int) ≤ 15; omega⟩
      have HNX := Lib.hid hnx
      have hv := hexV_lt hc
      have hcl := c.toNat_lt
      clear hx hnx
      cases hd : digB c with
      | true =>
        have hd2 := hd
        unfold digB at hd2
        simp only [Bool.and_eq_true, decide_eq_true_eq] at hd2
        have hvc : hexV c = c.toNat - 48 := by unfold hexV; rw [if_pos (by omega)]
        obtain ⟨n, hn⟩ : ∃ n : Int, n = ((c.toNat : Nat) : Int) := ⟨_, rfl⟩
        rw [← hn] at hcell
        have n0 : 48 ≤ n := by omega
        have n1 : n ≤ 57 := by omega
        have hvn : (hexV c : Int) = n - 48 := by omega
        have HVN := Lib.hid hvn
        have e95 : (n == 95) = false := by rw [beq_eq_false_iff_ne]; omega
        clear hd hd2 hvc hn hvn hc hcl hv
        go_wp2_with fail
        exact ⟨⟨k + 1, x * 16 + (n - 48), rfl, rfl, by go_num, by omega, by show x * 16 + (n - 48) = _; rw [HNX.out, HVN.out]⟩, by simp [intOf]; omega⟩
      | false =>
        have hlow := lower_any c hc hd
        have hvv : 10 ≤ hexV c := by
          rw [hexB_iff] at hc
          have hd2 : ¬ (48 ≤ c.toNat ∧ c.toNat ≤ 57) := by
            intro h; unfold digB at hd; rw [Bool.and_eq_false_iff, decide_eq_false_iff_not, decide_eq_false_iff_not] at hd; omega
          unfold hexV
          (repeat' split) <;> omega
        have hn2 : 58 ≤ c.toNat ∧ c.toNat ≤ 102 := by
          rw [hexB_iff] at hc
          have hd2 : ¬ (48 ≤ c.toNat ∧ c.toNat ≤ 57) := by
            intro h; unfold digB at hd; rw [Bool.and_eq_false_iff, decide_eq_false_iff_not, decide_eq_false_iff_not] at hd; omega
          omega
        have hn95 : c.toNat ≠ 95 := by rw [hexB_iff] at hc; omega
        unfold u8v at hlow
        obtain ⟨y, hy⟩ : ∃ y : Int, y = ((hexV c + 87 : Nat) : Int) := ⟨_, rfl⟩
        simp only [← hy] at hlow
        obtain ⟨n, hn⟩ : ∃ n : Int, n = ((c.toNat : Nat) : Int) := ⟨_, rfl⟩
        rw [← hn] at hcell
        simp only [← hn] at hlow
        have n0 : 58 ≤ n := by omega
        have n1 : n ≤ 102 := by omega
        have y0 : 97 ≤ y := by omega
        have y1 : y ≤ 102 := by omega
        have hvn : (hexV c : Int) = y - 97 + 10 := by omega
        have HVN := Lib.hid hvn; have HL := Lib.hid hlow
        have e95 : (n == 95) = false := by rw [beq_eq_false_iff_ne]; omega
        clear hd hvv hn2 hn95 hn hvn hc hcl hv hlow hy
        go_wp2_with (go_at_call 125; refine (HL.out _).mono ?_; rintro e w9 ⟨rfl, rfl⟩)
        exact ⟨⟨k + 1, x * 16 + (y - 97 + 10), rfl, rfl, by go_num, by omega, by show x * 16 + (y - 97 + 10) = _; rw [HNX.out, HVN.out]⟩, by simp [intOf]; omega⟩
    · obtain rfl : k = 2 := by omega
      have tk : decide (((2 : Nat) : Int) < 2) = false := by decide
      have hx2 := hx.out
      have HX := Lib.hid hx2
      clear hx2 hx
      go_wp2_with fail
      go_ret2
      exact ⟨by rw [HX.out]; rfl, HBE.out⟩
end Go.Proofs.YtcpkkaimingnlaaGreatDoor
end
section
namespace Go.Proofs.YtcpkkaimingnlaaGreatDoor
open Go.RowKit

def hexChars : Bs := [48, 49, 50, 51, 52, 53, 54, 55, 56, 57, 97, 98, 99, 100, 101, 102, 65, 66, 67, 68, 69, 70]
theorem idx_hex : ∀ i : Fin 256, decide (Lib.indexByte hexChars (UInt8.ofNat i.val) ≥ 0) = hexB (UInt8.ofNat i.val) := by decide +kernel
theorem idx_marks : ∀ i : Fin 256, decide (Lib.indexByte marksB (UInt8.ofNat i.val) ≥ 0) = marksB.contains (UInt8.ofNat i.val) := by decide +kernel
theorem byte_back (c : UInt8) : ((c.toNat : Nat) : Int).toNat.toUInt8 = c := by simp
theorem fin_byte (c : UInt8) : UInt8.ofNat (Fin.val (⟨c.toNat, c.toNat_lt⟩ : Fin 256)) = c := by simp
set_option maxHeartbeats 1000000 in
theorem hexd_fn (c : UInt8) (w : World) : Calls Tryz.prog 111 #[u8v c] w fun e w' => e = .returned (.bool (hexB c)) ∧ w' = w := by
  have hi := idx_hex ⟨c.toNat, c.toNat_lt⟩
  rw [fin_byte] at hi
  have h64 := fun W => Tryz.strings_IndexByte (bs hexChars) ((c.toNat : Nat) : Int) W
  simp only [byte_back] at h64
  have e : (bs hexChars).data.toList = hexChars := rfl
  rw [e] at h64
  have e2 : bs hexChars = ⟨#[48, 49, 50, 51, 52, 53, 54, 55, 56, 57, 97, 98, 99, 100, 101, 102, 65, 66, 67, 68, 69, 70]⟩ := rfl
  rw [e2] at h64
  unfold u8v
  generalize Lib.indexByte hexChars c = r at *
  generalize hexB c = hb at *
  generalize ((c.toNat : Nat) : Int) = n at *
  have H64 := Lib.hid h64
  clear h64 e e2
  go_enter Tryz.func111, Tryz.ntmps111
  go_wp2_with (go_at_call 64; refine (H64.out _).mono ?_; rintro e w' ⟨rfl, rfl⟩)
  go_ret
  exact ⟨by rw [← hi]; rfl, rfl⟩
set_option maxHeartbeats 2000000 in
set_option maxRecDepth 100000 in
theorem all111_any (s : Bs) (w : World) (hl : s.length ≤ 1000000) :
    Calls Tryz.prog 42 #[.string (bs s), .func (.func 111) #[] #[]] w fun e w' => e = .returned (.bool (s.all hexB)) ∧ w' = w := by
  have eg : ∀ args w, (callFunc 111 args).run Tryz.prog w = .ok (.enter 111 args) w := enters_of Tryz.func111 (by kernel_rfl) rfl
  have hz : (bs s).size = s.length := bs_size s
  have HX := Lib.hid (fun (i : Nat) (h : i < s.length) (w : World) => str_byte s i h w)
  obtain ⟨R, hR⟩ : ∃ R, R = s.all hexB := ⟨_, rfl⟩
  rw [← hR]
  obtain ⟨S, hS⟩ : ∃ S, S = bs s := ⟨_, rfl⟩
  rw [← hS] at hz ⊢
  simp only [← hS] at HX
  obtain ⟨n, hn⟩ : ∃ n, n = s.length := ⟨_, rfl⟩
  rw [← hn] at hz hl
  have HR := Lib.hid hR; have Hn := Lib.hid hn
  clear hR hS hn
  go_enter Tryz.func42, Tryz.ntmps42
  go_wp2_with fail
  go_loop [8] (fun i => ∃ j : Nat, i = .int .i64 (j : Int) ∧ j ≤ n ∧ (s.take j).all hexB = true) (fun i => n - (intOf i).toNat)
  case atStart => exact ⟨0, rfl, Nat.zero_le _, rfl⟩
  case round =>
    obtain ⟨j, rfl, hj, hall⟩ := hrel
    have HA := Lib.hid hall
    clear hall
    by_cases hjn : j < n
    · have tj : decide ((j : Int) < (n : Int)) = true := by rw [decide_eq_true_eq]; omega
      have hx := fun W => HX.out j (by rw [← Hn.out]; exact hjn) W
      have hts : s.take (j + 1) = s.take j ++ [s.getD j 0] := by
        have hjl : j < s.length := by rw [← Hn.out]; exact hjn
        rw [List.take_succ_eq_append_getElem hjl]; simp [hjl]
      have hmem : s.getD j 0 ∈ s := by
        have hjl : j < s.length := by rw [← Hn.out]; exact hjn
        simp [hjl]
      have hC := hexd_fn (s.getD j 0)
      obtain ⟨c, hc⟩ : ∃ c, c = s.getD j 0 := ⟨_, rfl⟩
      rw [← hc] at hts hmem hC
      simp only [← hc] at hx
      have HTS := Lib.hid hts; have HM := Lib.hid hmem
      clear hc hts hmem
      unfold u8v at hC
      cases hp : hexB c with
      | true =>
        rw [hp] at hC
        have HC := Lib.hid hC
        have e1 : (s.take (j + 1)).all hexB = true := by rw [HTS.out, List.all_append, HA.out]; simp [hp]
        have E1 := Lib.hid e1
        clear e1 hC hp
        go_wp2_with (go_at_fn 111; refine (HC.out _).mono ?_; rintro e w9 ⟨rfl, rfl⟩)
        exact ⟨⟨j + 1, by go_num, by omega, E1.out⟩, by simp [intOf]; omega⟩
      | false =>
        rw [hp] at hC
        have HC := Lib.hid hC
        have e1 : R = false := by
          rw [HR.out]
          cases h : s.all hexB with
          | false => rfl
          | true => exact absurd (List.all_eq_true.1 h c HM.out) (by rw [hp]; decide)
        have E1 := Lib.hid e1
        clear e1 hC hp
        go_wp2_with (go_at_fn 111; refine (HC.out _).mono ?_; rintro e w9 ⟨rfl, rfl⟩)
        go_ret
        exact ⟨by rw [E1.out]; rfl, rfl⟩
    · obtain rfl : j = n := by omega
      have tj : decide ((j : Int) < (j : Int)) = false := by rw [decide_eq_false_iff_not]; omega
      have e1 : R = true := by
        rw [HR.out]
        have := HA.out
        rwa [List.take_of_length_le (by rw [← Hn.out]; exact Nat.le_refl _)] at this
      have E1 := Lib.hid e1
      clear e1
      go_wp2_with fail
      go_ret
      exact ⟨by rw [E1.out]; rfl, rfl⟩
set_option maxHeartbeats 1000000 in
theorem pu16p_any (a b : UInt8) (ha : hexB a = true) (hb : hexB b = true) (w : World) :
    Calls Tryz.prog 83 #[.string (bs [a, b]), .int .i64 16, .int .i64 8] w fun e w' => e = .returned (.tuple #[.int .u64 ((16 * hexV a + hexV b : Nat) : Int), .nilIface]) ∧ Below w.heap.size w w' := by
  have H := Lib.hid (fun W => pu16_any a b ha hb W)
  generalize bs [a, b] = S at *
  generalize ((16 * hexV a + hexV b : Nat) : Int) = r at *
  clear ha hb
  go_enter Tryz.func83, Tryz.ntmps83
  go_wp2_with (go_at_call 109; refine (H.out _).mono ?_; rintro e w' ⟨rfl, hb⟩)
  go_ret2
  exact ⟨rfl, hb⟩
def hexZ (s : Bs) : Int := match s with
  | a :: b :: _ => if (hexB a && hexB b) = true then ((16 * hexV a + hexV b : Nat) : Int) else -1
  | _ => -1
theorem hexZ_neg (s : Bs) : decide (hexZ s < 0) = !hex2 s := by
  match s with
  | [] => rfl
  | [a] => rfl
  | a :: b :: t =>
    rw [hex2_cons, show hexZ (a :: b :: t) = if (hexB a && hexB b) = true then ((16 * hexV a + hexV b : Nat) : Int) else -1 from rfl]
    by_cases h : (hexB a && hexB b) = true
    · rw [if_pos h, h, decide_eq_false (by omega)]; rfl
    · have h' : (hexB a && hexB b) = false := by simpa using h
      rw [if_neg h, h']; rfl
set_option maxHeartbeats 2000000 in
theorem hex_any (s : Bs) (w : World) (hl : s.length ≤ 1000000) :
    Calls Tryz.prog 84 #[.string (bs s)] w fun e w' => e = .returned (.int .i64 (hexZ s)) ∧ Below w.heap.size w w' := by
  have hz : (bs s).size = s.length := bs_size s
  by_cases h2 : s.length < 2
  · have hR : hexZ s = -1 := by
      match s, h2 with
      | [], _ => rfl
      | [a], _ => rfl
    have t1 : decide ((s.length : Int) < 2) = true := by rw [decide_eq_true_eq]; omega
    rw [hR]
    generalize bs s = S at *
    clear hR
    generalize s.length = n at *
    go_enter Tryz.func84, Tryz.ntmps84
    go_wp2_with fail
    go_ret
    exact ⟨rfl, Below.refl _ _⟩
  · have t1 : decide ((s.length : Int) < 2) = false := by rw [decide_eq_false_iff_not]; omega
    match s, h2 with
    | a :: b :: t, _ =>
      have hst := fun W => str_to (a :: b :: t) 2 (by simp) W
      have e2 : (a :: b :: t : Bs).take 2 = [a, b] := rfl
      rw [e2] at hst
      have hst : ∀ W, (Instr.slice 9 (.string (bs (a :: b :: t))) none (some (.int .i64 2)) none).run Tryz.prog W = .ok (.string (bs [a, b])) W := hst
      have h42 := fun W => all111_any [a, b] W (by simp)
      have ea : ([a, b] : Bs).all hexB = (hexB a && hexB b) := by simp
      rw [ea] at h42
      have hp := pu16p_any a b
      have hR : hexZ (a :: b :: t) = if (hexB a && hexB b) = true then ((16 * hexV a + hexV b : Nat) : Int) else -1 := rfl
      rw [hR]
      have va : hexB a = true → hexV a < 16 := hexV_lt
      have vb : hexB b = true → hexV b < 16 := hexV_lt
      obtain ⟨n, hn⟩ : ∃ n, n = (a :: b :: t).length := ⟨_, rfl⟩
      rw [← hn] at hz t1 hl
      generalize bs (a :: b :: t) = S at *
      generalize bs [a, b] = T at *
      clear e2 ea hR hn
      cases hh : hexB a && hexB b with
      | true =>
        rw [hh] at h42
        rw [Bool.and_eq_true] at hh
        have hp := hp hh.1 hh.2
        have va := va hh.1
        have vb := vb hh.2
        obtain ⟨r, hr⟩ : ∃ r : Int, r = ((16 * hexV a + hexV b : Nat) : Int) := ⟨_, rfl⟩
        simp only [← hr] at hp
        rw [if_pos rfl, ← hr]
        have r0 : 0 ≤ r := by omega
        have r1 : r ≤ 255 := by omega
        have H42 := Lib.hid h42; have HP := Lib.hid hp
        clear h42 hp hh va vb hr
        go_enter Tryz.func84, Tryz.ntmps84
        go_wp2_with (first | (go_at_call 42; refine (H42.out _).mono ?_; rintro e w' ⟨rfl, rfl⟩) | (go_at_call 83; refine (HP.out _).mono ?_; rintro e w' ⟨rfl, hb⟩))
        go_ret
        exact ⟨rfl, hb⟩
      | false =>
        rw [hh] at h42
        have H42 := Lib.hid h42
        clear h42 hp hh va vb
        rw [if_neg (by decide)]
        go_enter Tryz.func84, Tryz.ntmps84
        go_wp2_with (go_at_call 42; refine (H42.out _).mono ?_; rintro e w' ⟨rfl, rfl⟩)
        go_ret
        exact ⟨rfl, Below.refl _ _⟩
end Go.Proofs.YtcpkkaimingnlaaGreatDoor
end
section
namespace Go.Proofs.YtcpkkaimingnlaaGreatDoor
open Go.RowKit

set_option maxHeartbeats 8000000 in
set_option maxRecDepth 100000 in
theorem right_any (s : Bs) (w : World) (hl : s.length ≤ 1000000) :
    Calls Tryz.prog 45 #[.string (bs s)] w fun e w' => e = .returned (.bool (rightL s)) ∧ Below w.heap.size w w' := by
  have hz : (bs s).size = s.length := bs_size s
  have HX := Lib.hid (fun (i : Nat) (h : i < s.length) (w : World) => str_byte s i h w)
  have HF := Lib.hid (fun (i : Nat) (h : i ≤ s.length) (w : World) => str_from s i h w)
  have H84 := Lib.hid (fun (i : Nat) (W : World) => hex_any (s.drop i) W (by rw [List.length_drop]; omega))
  obtain ⟨R, hR⟩ : ∃ R, R = rightL s := ⟨_, rfl⟩
  rw [← hR]
  obtain ⟨S, hS⟩ : ∃ S, S = bs s := ⟨_, rfl⟩
  rw [← hS] at hz ⊢
  simp only [← hS] at HX HF
  obtain ⟨n, hn⟩ : ∃ n, n = s.length := ⟨_, rfl⟩
  rw [← hn] at hz hl
  have HR := Lib.hid hR; have Hn := Lib.hid hn
  clear hR hS hn
  go_enter Tryz.func45, Tryz.ntmps45
  go_wp2_with fail
  go_loopw [7] (fun i wr => ∃ j : Nat, i = .int .i64 (j : Int) ∧ j ≤ n ∧ R = rightL (s.drop j) ∧ Below w.heap.size w wr) (fun i _ => n - (intOf i).toNat)
  case atStart => exact ⟨0, rfl, Nat.zero_le _, HR.out, Below.refl _ _⟩
  case round =>
    obtain ⟨j, rfl, hj, hRj, hbr⟩ := hrel
    have HB := Lib.hid hbr; have HRj := Lib.hid hRj
    clear hbr hRj
    by_cases hjn : j < n
    · have tj : decide ((j : Int) < (n : Int)) = true := by rw [decide_eq_true_eq]; omega
      have hjl : j < s.length := by rw [← Hn.out]; exact hjn
      have hx := fun W => HX.out j hjl W
      have hf := fun W => HF.out (j + 1) hjl W
      have h84 := fun W => H84.out (j + 1) W
      have hd : s.drop j = s.getD j 0 :: s.drop (j + 1) := by rw [List.drop_eq_getElem_cons hjl]; simp [hjl]
      obtain ⟨c, hc⟩ : ∃ c, c = s.getD j 0 := ⟨_, rfl⟩
      obtain ⟨r, hr⟩ : ∃ r, r = s.drop (j + 1) := ⟨_, rfl⟩
      have hst : R = (okB c && (c != 37 || hex2 r) && rightL r) := by rw [HRj.out, hd, ← hc, ← hr]; rfl
      simp only [← hc] at hx
      simp only [← hr] at hf h84
      have hmk := idx_marks ⟨c.toNat, c.toNat_lt⟩
      rw [fin_byte] at hmk
      have h64 := fun W => Tryz.strings_IndexByte (bs marksB) ((c.toNat : Nat) : Int) W
      simp only [byte_back] at h64
      have e1 : (bs marksB).data.toList = marksB := rfl
      have e2 : bs marksB = ⟨#[34, 60, 62, 92, 94, 96, 123, 124, 125]⟩ := rfl
      rw [e1, e2] at h64
      have hneg := hexZ_neg r
      have h37 : ((c.toNat : Int) == 37) = (c == 37) := u8_beq c 37 37 rfl
      have hok : okB c = (decide (33 ≤ c.toNat) && decide (c.toNat ≤ 126) && !marksB.contains c) := rfl
      have hcl := c.toNat_lt
      have hcast : IntKind.i64.wrap ((j : Int) + 1) = (j : Int) + 1 := IntWalk.i64_in _ (by omega)
      obtain ⟨ix, hix⟩ : ∃ ix, ix = Lib.indexByte marksB c := ⟨_, rfl⟩
      simp only [← hix] at h64 hmk
      obtain ⟨hv, hhv⟩ : ∃ hv, hv = hexZ r := ⟨_, rfl⟩
      simp only [← hhv] at h84 hneg
      obtain ⟨T, hT⟩ : ∃ T, T = bs r := ⟨_, rfl⟩
      simp only [← hT] at hf h84
      have hf : ∀ W, (Instr.slice 9 (.string S) (some (.int .i64 ((j : Int) + 1))) none none).run Tryz.prog W = .ok (.string T) W := hf
      obtain ⟨mk, hmkv⟩ : ∃ mk, mk = marksB.contains c := ⟨_, rfl⟩
      rw [← hmkv] at hmk hok
      obtain ⟨c37, hc37⟩ : ∃ c37, c37 = (c == 37) := ⟨_, rfl⟩
      have hne : (c != 37) = !c37 := by rw [hc37]; rfl
      rw [← hc37] at h37
      rw [hne, hok] at hst
      obtain ⟨x2, hx2⟩ : ∃ x2, x2 = hex2 r := ⟨_, rfl⟩
      rw [← hx2] at hst hneg
      have HDR : Hid (rightL r = rightL (s.drop (j + 1))) := by rw [hr]; exact rfl
      obtain ⟨m, hm⟩ : ∃ m, m = c.toNat := ⟨_, rfl⟩
      rw [← hm] at hst h37 hcl
      simp only [← hm] at hx h64
      have HST := Lib.hid hst; have H64 := Lib.hid h64; have H84' := Lib.hid h84
      clear hst h64 h84 hd hc hr hix hhv hT hmkv hc37 hx2 hm e1 e2 hne hok hjl
      have hmx : (m : Int) < 256 := by omega
      by_cases h1 : m < 33
      · have t1 : decide ((m : Int) < 33) = true := by rw [decide_eq_true_eq]; omega
        have hr0 : R = false := by rw [HST.out, decide_eq_false (by omega)]; rfl
        have HR0 := Lib.hid hr0
        clear hr0 hmk hneg h37 hf
        go_wp2_with fail
        go_ret
        exact ⟨by rw [HR0.out]; rfl, HB.out⟩
      · have t1 : decide ((m : Int) < 33) = false := by rw [decide_eq_false_iff_not]; omega
        by_cases h2 : 126 < m
        · have t2 : decide ((m : Int) > 126) = true := by rw [decide_eq_true_eq]; omega
          have hr0 : R = false := by rw [HST.out, decide_eq_false (show ¬ m ≤ 126 by omega)]; simp
          have HR0 := Lib.hid hr0
          clear hr0 hmk hneg h37 hf
          go_wp2_with fail
          go_ret
          exact ⟨by rw [HR0.out]; rfl, HB.out⟩
        · have t2 : decide ((m : Int) > 126) = false := by rw [decide_eq_false_iff_not]; omega
          cases mk with
          | true =>
            have hr0 : R = false := by rw [HST.out]; simp
            have HR0 := Lib.hid hr0
            clear hr0 hneg h37 hf
            go_wp2_with (go_at_call 64; refine (H64.out _).mono ?_; rintro e w' ⟨rfl, rfl⟩)
            go_ret
            exact ⟨by rw [HR0.out]; rfl, HB.out⟩
          | false =>
            have hst2 : R = ((!c37 || x2) && rightL r) := by
              rw [HST.out, decide_eq_true (show 33 ≤ m by omega), decide_eq_true (show m ≤ 126 by omega)]; simp
            have HS2 := Lib.hid hst2
            clear hst2
            cases c37 with
            | false =>
              have hr1 : R = rightL (s.drop (j + 1)) := by rw [← HDR.out, HS2.out]; simp
              have HR1 := Lib.hid hr1
              clear hr1 hneg hf
              go_wp2_with (go_at_call 64; refine (H64.out _).mono ?_; rintro e w' ⟨rfl, rfl⟩)
              exact ⟨⟨j + 1, by go_num, by omega, HR1.out, HB.out⟩, by simp [intOf]; omega⟩
            | true =>
              cases x2 with
              | true =>
                have hr1 : R = rightL (s.drop (j + 1)) := by rw [← HDR.out, HS2.out]; simp
                have HR1 := Lib.hid hr1
                clear hr1
                go_wp2_with (first | (go_at_call 64; refine (H64.out _).mono ?_; rintro e w' ⟨rfl, rfl⟩) | (go_at_call 84; refine (H84'.out _).mono ?_; rintro e w' ⟨rfl, hb8⟩))
                exact ⟨⟨j + 1, by go_num, by omega, HR1.out, HB.out.trans (hb8.mono HB.out.size)⟩, by simp [intOf]; omega⟩
              | false =>
                have hr0 : R = false := by rw [HS2.out]; rfl
                have HR0 := Lib.hid hr0
                clear hr0
                go_wp2_with (first | (go_at_call 64; refine (H64.out _).mono ?_; rintro e w' ⟨rfl, rfl⟩) | (go_at_call 84; refine (H84'.out _).mono ?_; rintro e w' ⟨rfl, hb8⟩))
                go_ret
                exact ⟨by rw [HR0.out]; rfl, HB.out.trans (hb8.mono HB.out.size)⟩
    · obtain rfl : j = n := by omega
      have tj : decide ((j : Int) < (j : Int)) = false := by rw [decide_eq_false_iff_not]; omega
      have hr1 : R = true := by rw [HRj.out, List.drop_of_length_le (by rw [← Hn.out]; exact Nat.le_refl _)]; rfl
      have HR1 := Lib.hid hr1
      clear hr1
      go_wp2_with fail
      go_ret
      exact ⟨by rw [HR1.out]; rfl, HB.out⟩
end Go.Proofs.YtcpkkaimingnlaaGreatDoor
end
section
namespace Go.Proofs.YtcpkkaimingnlaaGreatDoor
open Go.RowKit

/-- The listed variables, and what any world of this program holds. -/
structure Tabs (w : World) : Prop where
  utf : Lib.Utf8Tabs 2 3 w
  case : Lib.CaseVar 1 Lib.caseA w
  pow : Lib.TabIs Tryz.prog w "internal/strconv.uint64pow10" .u64 Lib.pow10Tab
  syn : ∃ tp p, w.cell? ⟨4, 0, none⟩ = some (.iface tp p)
  rng : ∃ tp p, w.cell? ⟨5, 0, none⟩ = some (.iface tp p)
  len : ∃ m, w.cell? ⟨0, 0, none⟩ = some (.int .i64 m)
def foldD (acc : Nat) (l : Bs) : Nat := l.foldl (fun n c => 10 * n + (c.toNat - 48)) acc
theorem foldD_cons (acc : Nat) (c : UInt8) (r : Bs) : foldD acc (c :: r) = foldD (10 * acc + (c.toNat - 48)) r := by unfold foldD; rw [List.foldl_cons]
theorem foldD_ge : ∀ (l : Bs) (acc : Nat), acc ≤ foldD acc l
  | [], acc => Nat.le_refl _
  | c :: r, acc => by
    rw [foldD_cons]
    have := foldD_ge r (10 * acc + (c.toNat - 48))
    omega
theorem digB_iff (c : UInt8) : digB c = true ↔ 48 ≤ c.toNat ∧ c.toNat ≤ 57 := by
  unfold digB; rw [Bool.and_eq_true, decide_eq_true_eq, decide_eq_true_eq]
theorem parseM_ok : ∀ (l : Bs) (acc u : Nat), Lib.parseUintM 65535 acc l = .ok u → acc ≤ 65535 → (∀ c ∈ l, digB c = true) ∧ u = foldD acc l ∧ u ≤ 65535
  | [], acc, u, h, ha => by
    simp only [Lib.parseUintM] at h
    injection h with h
    subst h
    exact ⟨(fun _ h => by cases h), rfl, ha⟩
  | c :: r, acc, u, h, ha => by
    simp only [Lib.parseUintM] at h
    split at h
    · rename_i hd
      split at h
      · cases h
      · split at h
        · cases h
        · rename_i hM
          obtain ⟨h1, h2, h3⟩ := parseM_ok r _ u h (by omega)
          refine ⟨fun x hx => ?_, ?_, h3⟩
          · rcases List.mem_cons.1 hx with rfl | hx
            · exact (digB_iff _).2 hd
            · exact h1 x hx
          · rw [h2, foldD_cons, Nat.mul_comm]
    · cases h
theorem parseM_of : ∀ (l : Bs) (acc : Nat), (∀ c ∈ l, digB c = true) → foldD acc l ≤ 65535 → Lib.parseUintM 65535 acc l = .ok (foldD acc l)
  | [], acc, _, _ => by simp only [Lib.parseUintM]; rfl
  | c :: r, acc, h, hf => by
    have hd := (digB_iff c).1 (h c List.mem_cons_self)
    have h1 := foldD_ge (c :: r) acc
    rw [foldD_cons] at hf
    have h2 := foldD_ge r (10 * acc + (c.toNat - 48))
    have e : acc * 10 + (c.toNat - 48) = 10 * acc + (c.toNat - 48) := by omega
    simp only [Lib.parseUintM]
    rw [if_pos hd, e, if_neg (by omega), if_neg (by omega), parseM_of r _ (fun x hx => h x (List.mem_cons_of_mem _ hx)) hf, foldD_cons]
theorem port_ok (s : Bs) (u : Nat) (h : Lib.parseUintB 16 s = .ok u) : s ≠ [] ∧ s.all digB = true ∧ u = valD s ∧ u ≤ 65535 := by
  unfold Lib.parseUintB at h
  by_cases hs : s = []
  · rw [if_pos hs] at h; cases h
  · rw [if_neg hs] at h
    obtain ⟨h1, h2, h3⟩ := parseM_ok s 0 u h (by omega)
    exact ⟨hs, List.all_eq_true.2 h1, h2, h3⟩
theorem port_no (s : Bs) (h : ∀ u, Lib.parseUintB 16 s ≠ .ok u) : portP s = 0 := by
  unfold portP
  by_cases hc : s ≠ [] ∧ s.all digB = true ∧ valD s ≤ 65535 ∧ s.head? ≠ some 48
  · exfalso
    refine h (valD s) ?_
    unfold Lib.parseUintB
    rw [if_neg hc.1]
    exact parseM_of s 0 (List.all_eq_true.1 hc.2.1) hc.2.2.1
  · rw [if_neg hc]
theorem powG : Tryz.prog.globalNamed "internal/strconv.uint64pow10" = some 6 := by kernel_rfl
theorem Tabs.below {w w' : World} (h : Tabs w) (hb : Below w.heap.size w w') : Tabs w' := by
  have hc : ∀ {a : Addr} {v : Value}, w.cell? a = some v → w'.cell? a = some v := by
    intro a v ha
    have hl : a.block < w.heap.size := by
      rcases Nat.lt_or_ge a.block w.heap.size with h' | h'
      · exact h'
      · simp [World.cell?, h'] at ha
    rw [hb.cell hl]; exact ha
  obtain ⟨h1, h2, h3, ⟨t1, p1, h4⟩, ⟨t2, p2, h5⟩, ⟨m, h6⟩⟩ := h
  exact ⟨Utf8Tabs_below h1 hb, Lib.CaseVar_below h2 hb, Go.Joins.tab_stays powG h3 hb (Nat.le_refl _), ⟨t1, p1, hc h4⟩, ⟨t2, p2, hc h5⟩, ⟨m, hc h6⟩⟩
/-- strconv.ParseUint(s, 10, 16) where the text is no row of digits. -/
theorem pu_other (s : ByteArray) (hlim : s.size ≤ 281474976710656) (h1 : ∀ u, Lib.parseUintB 16 s.data.toList ≠ .ok u) (h2 : Lib.parseUintB 16 s.data.toList ≠ .range) (ev : Value) (w : World) (hv : w.cell? ⟨4, 0, none⟩ = some ev) (hev : ev = .nilIface ∨ ∃ te pe, ev = .iface te pe) :
    Calls Tryz.prog 83 #[.string s, .int .i64 10, .int .i64 16] w fun e w' => ∃ N, e = .returned (.tuple #[.int .u64 0, .iface 142 (.pointer (some ⟨N, 0, none⟩))]) ∧ w.heap.size ≤ N ∧ w'.heap[N]? = some (.cells #[.string ⟨#[80, 97, 114, 115, 101, 85, 105, 110, 116]⟩, .string s, ev] 157 (0, 0)) ∧ Below w.heap.size w w' := by
  cases hx : Lib.parseUintB 16 s.data.toList
  · exact absurd hx (h1 _)
  · exact Any.strconv_ParseUint_10_at16_syntax Tryz.laysPu14 s hlim hx ev w hv hev
  · exact absurd hx h2
set_option maxHeartbeats 2000000 in
theorem port_any (s : Bs) (w : World) (hT : Tabs w) (hl : s.length ≤ 1000000) :
    Calls Tryz.prog 41 #[.string (bs s)] w fun e w' => e = .returned (.int .i64 ((portP s : Nat) : Int)) ∧ Below w.heap.size w w' := by
  have hz : (bs s).size = s.length := bs_size s
  by_cases hok : ∃ u, Lib.parseUintB 16 s = .ok u
  · obtain ⟨u, hp⟩ := hok
    obtain ⟨h1, h2, h3, h4⟩ := port_ok s u hp
    have hc := Lib.hid (Tryz.strconv_ParseUint_10_at16_ok (bs s) (by rw [hz]; omega) u hp w)
    match s, h1 with
    | c :: r, _ =>
      have hx := str_byte (c :: r) 0 (by simp)
      have hx : ∀ W, (Instr.index 9 (.string (bs (c :: r))) (.int .i64 0)).run Tryz.prog W = .ok (.int .u8 ((c.toNat : Nat) : Int)) W := hx
      have hd : digB c = true := List.all_eq_true.1 h2 c List.mem_cons_self
      have hd2 := (digB_iff c).1 hd
      have hP : portP (c :: r) = if c = 48 then 0 else u := by
        unfold portP
        by_cases h48 : c = 48
        · rw [if_pos h48, if_neg (fun h => h.2.2.2 (by rw [h48]; rfl))]
        · rw [if_neg h48, if_pos ⟨by simp, h2, by omega, by simpa using h48⟩, h3]
      have e1 : ((c.toNat : Int) == 48) = (c == 48) := u8_beq c 48 48 rfl
      rw [hP]
      obtain ⟨n, hn⟩ : ∃ n, n = (c :: r).length := ⟨_, rfl⟩
      rw [← hn] at hz hl
      have hnp : 0 < n := by rw [hn]; simp
      generalize bs (c :: r) = S at *
      clear hP hd h2 h3 hp hn
      have hB : ∀ w', (w' = w ∨ w' = Lib.bytesWorld w 5 S) → Below w.heap.size w w' := by
        rintro w' (rfl | rfl)
        · exact Below.refl _ _
        · exact Go.Joins.below_bytesWorld _ w 5 S (Nat.le_refl _)
      have HB := Lib.hid hB
      clear hB
      by_cases h48 : c = 48
      · rw [if_pos h48]
        subst h48
        clear e1 hd2
        go_enter Tryz.func41, Tryz.ntmps41
        go_wp2_with (go_at_call 83; refine hc.out.mono ?_; rintro e w' ⟨rfl, hw⟩; have HW := Lib.hid (HB.out w' hw); clear hw)
        go_ret
        exact ⟨rfl, HW.out⟩
      · rw [if_neg h48]
        have e2 : (c == 48) = false := by rw [beq_eq_false_iff_ne]; exact h48
        rw [e2] at e1
        obtain ⟨y, hy⟩ : ∃ y : Int, y = ((c.toNat : Nat) : Int) := ⟨_, rfl⟩
        rw [← hy] at e1
        simp only [← hy] at hx
        have e3 : (y == 43) = false := by rw [beq_eq_false_iff_ne]; omega
        clear hd2 hy h48 e2
        go_enter Tryz.func41, Tryz.ntmps41
        go_wp2_with (go_at_call 83; refine hc.out.mono ?_; rintro e w' ⟨rfl, hw⟩; have HW := Lib.hid (HB.out w' hw); clear hw)
        go_ret
        exact ⟨rfl, HW.out⟩
  by_cases hp : Lib.parseUintB 16 s = .range
  · obtain ⟨tp, p, hv⟩ := hT.rng
    have hP := port_no s (fun u h => by rw [hp] at h; cases h)
    have hc := Lib.hid (Tryz.strconv_ParseUint_10_at16_range (bs s) (by rw [hz]; omega) hp (.iface tp p) w hv (.inr ⟨tp, p, rfl⟩))
    rw [hP]
    generalize bs s = S at *
    clear hT hP hp hv hok
    go_enter Tryz.func41, Tryz.ntmps41
    go_wp2_with (go_at_call 83; refine hc.out.mono ?_; rintro e w' ⟨N, rfl, _, _, hb⟩)
    go_ret
    exact ⟨rfl, hb⟩
  · obtain ⟨tp, p, hv⟩ := hT.syn
    have hP := port_no s (fun u h => hok ⟨u, h⟩)
    have hc := Lib.hid (pu_other (bs s) (by rw [hz]; omega) (fun u h => hok ⟨u, h⟩) hp (.iface tp p) w hv (.inr ⟨tp, p, rfl⟩))
    rw [hP]
    generalize bs s = S at *
    clear hT hP hp hv hok
    go_enter Tryz.func41, Tryz.ntmps41
    go_wp2_with (go_at_call 83; refine hc.out.mono ?_; rintro e w' ⟨N, rfl, _, _, hb⟩)
    go_ret
    exact ⟨rfl, hb⟩
end Go.Proofs.YtcpkkaimingnlaaGreatDoor
end
section
namespace Go.Proofs.YtcpkkaimingnlaaGreatDoor
open Go.RowKit

theorem itoa_dec (n : Nat) : Lib.itoa (n : Int) = decT n := by
  have : Lib.itoa (n : Int) = Lib.decDigits n := by
    unfold Lib.itoa; rw [if_neg (by omega), Int.toNat_natCast]
  rw [this]
  induction n using Nat.strongRecOn with
  | _ n ih =>
    rw [Lib.decDigits, decT]
    by_cases h : n < 10
    · rw [dif_pos h, dif_pos h]
    · rw [dif_neg h, dif_neg h]
      have := ih (n / 10) (by omega) (by unfold Lib.itoa; rw [if_neg (by omega), Int.toNat_natCast])
      rw [this]
def lnk (l : Link) : Value := .agg #[.string (bs l.scheme), .string (bs l.host), .int .i64 ((l.port : Nat) : Int), .string (bs l.path), .string (bs l.query), .string (bs l.frag), .bool l.hasQ, .bool l.hasF]
def sL (l : Link) : Prop := l.scheme.length ≤ 1000000 ∧ l.host.length ≤ 1000000 ∧ l.port ≤ 65535
theorem below_gr (w : World) (q : Nat) (os : Array Obj) : Below w.heap.size w («Sort».grow (w.drewN q) os) :=
  ⟨rfl, rfl, rfl, by first | (simp [«Sort».grow]; done) | (simp [«Sort».grow]; omega), fun i hi => by
    show ((w.drewN q).heap ++ os)[i]? = _
    rw [Array.getElem?_append_left (by show i < w.heap.size; omega)]
    rfl⟩
theorem decT_len : ∀ (n : Nat), n ≤ 65535 → (decT n).length ≤ 6 := by
  have h0 : ∀ k n, n < 10 ^ (k + 1) → (decT n).length ≤ k + 1 := by
    intro k
    induction k with
    | zero => intro n hn; rw [decT, dif_pos (by omega)]; simp
    | succ k ih =>
      intro n hn
      rw [decT]
      by_cases h : n < 10
      · rw [dif_pos h]; simp
      · rw [dif_neg h, List.length_append]
        have := ih (n / 10) (by rw [Nat.pow_succ] at hn; omega)
        simp only [List.length_cons, List.length_nil]
        omega
  intro n hn
  exact h0 5 n (by omega)
theorem itoa_any (n : Nat) (hn : n ≤ 65535) (w : World) (hT : Tabs w) : Calls Tryz.prog 87 #[.int .i64 ((n : Nat) : Int)] w fun e w' => e = .returned (.string (bs (decT n))) ∧ Below w.heap.size w w' := by
  refine (Tryz.strconv_Itoa (n : Int) (by omega) (by omega) w hT.pow).mono ?_
  rintro e w' ⟨rfl, k, os, rfl⟩
  rw [itoa_dec]
  exact ⟨rfl, below_gr _ _ _⟩
theorem below_one (w : World) (x : Obj) : Below w.heap.size w (w.alloc x) := (Below.refl _ _).alloc (Nat.le_refl _) _
theorem below_then {w w1 w2 : World} (h : Below w.heap.size w w1) (h2 : Below w1.heap.size w1 w2) : Below w.heap.size w w2 := h.trans (h2.mono h.size)
set_option maxHeartbeats 2000000 in
theorem origin_any (l : Link) (w : World) (hT : Tabs w) (hl : sL l) :
    Calls Tryz.prog 51 #[lnk l] w fun e w' => e = .returned (.string (bs (originL l))) ∧ Below w.heap.size w w' := by
  have hc := Lib.hid (fun W (hb : Below w.heap.size w W) => itoa_any l.port hl.2.2 W (hT.below hb))
  have z1 : (bs l.scheme).size ≤ 1000000 := by rw [bs_size]; exact hl.1
  have z2 : (bs l.host).size ≤ 1000000 := by rw [bs_size]; exact hl.2.1
  have z3 : (bs (decT l.port)).size ≤ 6 := by rw [bs_size]; exact decT_len _ hl.2.2
  by_cases hp : l.port = 0
  · have e1 : (((l.port : Nat) : Int) == 0) = true := by rw [hp]; rfl
    have eO : originL l = (l.scheme ++ [58, 47, 47]) ++ l.host := by unfold originL portT; rw [if_pos hp, List.append_nil]
    rw [eO, ← bs_cat, ← bs_cat]
    unfold lnk
    generalize bs l.scheme = S1 at *
    generalize bs l.host = S2 at *
    clear eO hl z3 hp hc
    generalize ((l.port : Nat) : Int) = y at *
    go_enter Tryz.func51, Tryz.ntmps51
    have hA := Lib.hid (fun x : Obj => below_one w x)
    go_wp2
    go_ret
    exact ⟨rfl, hA.out _⟩
  · have e1 : (((l.port : Nat) : Int) == 0) = false := by rw [beq_eq_false_iff_ne]; omega
    have eO : originL l = (l.scheme ++ [58, 47, 47]) ++ l.host ++ ([58] ++ decT l.port) := by unfold originL portT; rw [if_neg hp]; rfl
    rw [eO, ← bs_cat, ← bs_cat, ← bs_cat, ← bs_cat]
    unfold lnk
    generalize bs (decT l.port) = S3 at *
    generalize bs l.scheme = S1 at *
    generalize bs l.host = S2 at *
    clear eO hl hp
    generalize ((l.port : Nat) : Int) = y at *
    go_enter Tryz.func51, Tryz.ntmps51
    have hA := Lib.hid (fun x : Obj => below_one w x)
    go_wp2_with (go_at_call 87; refine (hc.out _ (hA.out _)).mono ?_; rintro e w' ⟨rfl, hb⟩)
    go_ret
    exact ⟨rfl, below_then (hA.out _) hb⟩
end Go.Proofs.YtcpkkaimingnlaaGreatDoor
end
section
namespace Go.Proofs.YtcpkkaimingnlaaGreatDoor
open Go.RowKit

/-- World w' is world w but for what block g holds. -/
structure Turned (w w' : World) (g : Nat) : Prop where
  far : ∀ k, k ≠ g → w'.heap[k]? = w.heap[k]?
  size : w'.heap.size = w.heap.size
  below : ∀ B w0, B ≤ g → Below B w0 w → Below B w0 w'
theorem Turned.blk {w w' : World} {g k : Nat} {t : TypeId} {cs : List Value} (h : Turned w w' g) (hb : Blk w k t cs) (hk : k ≠ g) : Blk w' k t cs := (h.far k hk).trans hb
theorem turned_setRow (w : World) (g : Nat) (cs : Array Value) : Turned w (w.setRow g cs) g :=
  ⟨fun k hk => by simp only [World.setRow, Array.getElem?_modify]; rw [if_neg (fun e => hk e.symm)], by simp [World.setRow], fun B w0 hB hb =>
    ⟨hb.os, hb.tape, hb.output, by simpa [World.setRow] using hb.size, fun k hk => by
      rw [← hb.block k hk]
      simp only [World.setRow, Array.getElem?_modify]
      rw [if_neg (by omega)]⟩⟩
theorem blk_setRow {w : World} {g : Nat} {t : TypeId} {cs : List Value} (h : Blk w g t cs) (new : List Value) : Blk (w.setRow g new.toArray) g t new := by
  unfold Blk at h ⊢
  simp [World.setRow, Array.getElem?_modify, h]
theorem set_mid (cs : List Value) (i : Nat) (v : Value) (h : i < cs.length) : cs.take i ++ [v] ++ cs.drop (i + 1) = cs.set i v := by
  rw [List.set_eq_take_append_cons_drop, if_pos h]; simp
theorem cells_one {v : Value} (h : v.oneCell' = true) : v.cells = #[v] := by
  cases v <;> first | rfl | cases h
/-- A store of one cell. -/
theorem wpList_storeC {P : Program} {ops : Array Oper} {rest : List Oper} {o : Oper} {a : Act} {w : World} {Q : Exit → Act → World → Prop} (hgd : o.guard = none) (ty : TypeId) (x y : Operand) (ho : o.op = .store ty x y)
    (g i : Nat) (v : Value) (hx : a.eval x = .pointer (some ⟨g, i, none⟩)) (hy : a.eval y = v) (h1 : v.oneCell' = true) (hs : (P.info? ty).map (·.size) = some 1)
    (t : TypeId) (cs : List Value) (hb : Blk w g t cs) (hi : i < cs.length)
    (h : ∀ w', Blk w' g t (cs.set i v) → Turned w w' g → wpList P ops Q rest (a.put o.dst undef) w') : wpList P ops Q (o :: rest) a w := by
  refine wpList_plain hgd fun K hK => ?_
  have hst := run_storeCells_at P g i t [v] 0 cs.toArray w hb (by simp; omega) (fun x hx => by rw [List.mem_singleton.1 hx]; exact h1)
  have e : ((cs.toArray).toList.take (i + 0) ++ [v] ++ (cs.toArray).toList.drop (i + 0 + [v].length)).toArray = (cs.set i v).toArray := by
    simp only [Nat.add_zero, List.length_cons, List.length_nil, Nat.zero_add]
    rw [← set_mid cs i v hi]
  rw [e] at hst
  unfold Oper.wp execOp
  cases hq : P.info? ty with
  | none => simp [hq] at hs
  | some j =>
    have hj : j.size = 1 := by simpa [hq] using hs
    have hv : (storeVar ty ⟨g, i, none⟩ v).run P w = .ok () (w.setRow g (cs.set i v).toArray) := by
      simp [storeVar, sizeOf, typeInfo, hq, hj, cells_one h1, Sem.run_bind, hst]
    simp only [ho, hx, hy, Instr.storeAt, Instr.sureAddr, Sem.run_bind, Sem.run_pure, Result.andThen_ok, hv]
    exact hK _ _ (h _ (blk_setRow hb _) (turned_setRow _ _ _))
/-- A store of a whole block. -/
theorem wpList_storeR {P : Program} {ops : Array Oper} {rest : List Oper} {o : Oper} {a : Act} {w : World} {Q : Exit → Act → World → Prop} (hgd : o.guard = none) (ty : TypeId) (x y : Operand) (ho : o.op = .store ty x y)
    (g : Nat) (new : Array Value) (hx : a.eval x = .pointer (some ⟨g, 0, none⟩)) (hy : a.eval y = .agg new) (t : TypeId) (cs : List Value) (hb : Blk w g t cs)
    (hi : (P.info? ty).map (·.size) = some new.size) (hl : cs.length = new.size) (h1 : new.all (·.oneCell') = true)
    (h : ∀ w', Blk w' g t new.toList → Turned w w' g → wpList P ops Q rest (a.put o.dst undef) w') : wpList P ops Q (o :: rest) a w :=
  Go.wpList_store_row hgd ty x y ho g new hx hy t cs.toArray hb hi (by simpa using hl) h1 (h _ (by have := blk_setRow hb new.toList; rwa [Array.toArray_toList] at this) (turned_setRow _ _ _))
/-- A load of a whole block. -/
theorem wpList_loadR {P : Program} {ops : Array Oper} {rest : List Oper} {o : Oper} {a : Act} {w : World} {Q : Exit → Act → World → Prop} (hgd : o.guard = none) (ty : TypeId) (x : Operand) (ho : o.op = .load ty x)
    (g : Nat) (hx : a.eval x = .pointer (some ⟨g, 0, none⟩)) (t : TypeId) (cs : List Value) (d : TypeDesc) (hb : Blk w g t cs)
    (hu : P.underlying ty = some d) (hd : (match d with | .struct _ | .array _ _ => true | _ => false) = true) (hi : (P.info? ty).map (·.size) = some cs.length)
    (h : wpList P ops Q rest (a.put o.dst (.agg cs.toArray)) w) : wpList P ops Q (o :: rest) a w :=
  wpList_load_row hgd ty x ho g hx t cs.toArray (0, 0) d hb hu hd (by simpa using hi) h
theorem results_link {fn : Func} {p u : Tmp} (h : fn.results = #[.cell p 24, .tmp u]) (tmps : Array Value) (w : World) (g : Nat) (cs : List Value) (hp : tmps.getD p undef = .pointer (some ⟨g, 0, none⟩)) (hb : Blk w g 24 cs) (hl : cs.length = 8) :
    (results fn tmps).run Tryz.prog w = .ok (.tuple #[.agg cs.toArray, tmps.getD u undef]) w := by
  have hi : (Tryz.prog.info? 24).map (·.size) = some 8 := by kernel_rfl
  rw [results_cell_tmp h, hp]
  have hld := run_loadVar_row (P := Tryz.prog) w g 24 24 cs.toArray (0, 0) _ hb Tryz.underlying24 rfl (by rw [hi]; simp [hl])
  simp [asAddr, hld]
theorem info24 : (Tryz.prog.info? 24).map (·.size) = some 8 := by kernel_rfl
theorem info9 : (Tryz.prog.info? 9).map (·.size) = some 1 := by kernel_rfl
theorem info3 : (Tryz.prog.info? 3).map (·.size) = some 1 := by kernel_rfl
theorem info4 : (Tryz.prog.info? 4).map (·.size) = some 1 := by kernel_rfl
/-- A store of a whole link. -/
theorem wpList_storeL {ops : Array Oper} {rest : List Oper} {o : Oper} {a : Act} {w : World} {Q : Exit → Act → World → Prop} (hgd : o.guard = none) (x y : Operand) (ho : o.op = .store 24 x y)
    (g : Nat) (new : Array Value) (hx : a.eval x = .pointer (some ⟨g, 0, none⟩)) (hy : a.eval y = .agg new) (cs : List Value) (hb : Blk w g 24 cs) (hn : new.size = 8) (hl : cs.length = 8) (h1 : new.toList.all (·.oneCell') = true)
    (h : ∀ w', Blk w' g 24 new.toList → Turned w w' g → wpList Tryz.prog ops Q rest (a.put o.dst undef) w') : wpList Tryz.prog ops Q (o :: rest) a w :=
  wpList_storeR hgd 24 x y ho g new hx hy 24 cs hb (by rw [info24, hn]) (by rw [hl, hn]) (by rw [← Array.all_toList]; exact h1) h
/-- A load of a whole link. -/
theorem wpList_loadL {ops : Array Oper} {rest : List Oper} {o : Oper} {a : Act} {w : World} {Q : Exit → Act → World → Prop} (hgd : o.guard = none) (x : Operand) (ho : o.op = .load 24 x)
    (g : Nat) (hx : a.eval x = .pointer (some ⟨g, 0, none⟩)) (cs : List Value) (hb : Blk w g 24 cs) (hl : cs.length = 8)
    (h : wpList Tryz.prog ops Q rest (a.put o.dst (.agg cs.toArray)) w) : wpList Tryz.prog ops Q (o :: rest) a w :=
  wpList_loadR hgd 24 x ho g hx 24 cs _ hb Tryz.underlying24 rfl (by rw [info24, hl]) h
def lcs (l : Link) : List Value := [.string (bs l.scheme), .string (bs l.host), .int .i64 ((l.port : Nat) : Int), .string (bs l.path), .string (bs l.query), .string (bs l.frag), .bool l.hasQ, .bool l.hasF]
theorem below_drewN {B : Nat} {w0 w : World} (h : Below B w0 w) (n : Nat) : Below B w0 (w.drewN n) := ⟨h.os, h.tape, h.output, h.size, h.block⟩
end Go.Proofs.YtcpkkaimingnlaaGreatDoor
end
section
namespace Go.Proofs.YtcpkkaimingnlaaGreatDoor
open Go.RowKit

theorem below_then' {W w1 w2 : World} (h : Below W.heap.size W w1) (h2 : Below w1.heap.size w1 w2) : Below W.heap.size W w2 := h.trans (h2.mono h.size)
theorem cell_stays {W w1 : World} {g i : Nat} {v : Value} (hs : W.heap.size = g + 1) (h : Below W.heap.size W w1) (c : W.cell? ⟨g, i, none⟩ = some v) : w1.cell? ⟨g, i, none⟩ = some v := by
  rw [h.cell (p := ⟨g, i, none⟩) (by show g < _; omega)]; exact c
set_option maxHeartbeats 4000000 in
theorem print_any (l : Link) (w : World) (hT : Tabs w) (hl : sL l) (hp : l.path.length ≤ 1000000) (hq : l.query.length ≤ 1000000) (hf : l.frag.length ≤ 1000000) :
    Calls Tryz.prog 16 #[lnk l] w fun e w' => e = .returned (.string (bs (printL l))) ∧ Below w.heap.size w w' := by
  have hc := Lib.hid (fun W (hb : Below w.heap.size w W) => origin_any l W (hT.below hb) hl)
  have z1 : (bs (originL l)).size ≤ 2000012 := by
    rw [bs_size]; unfold originL portT
    have := decT_len _ hl.2.2
    have := hl.1
    have := hl.2.1
    split
    · simp only [List.length_append, List.length_cons, List.length_nil]; omega
    · simp only [List.length_append, List.length_cons, List.length_nil]; omega
  have z2 : (bs l.path).size ≤ 1000000 := by rw [bs_size]; exact hp
  have z3 : (bs l.query).size ≤ 1000000 := by rw [bs_size]; exact hq
  have z4 : (bs l.frag).size ≤ 1000000 := by rw [bs_size]; exact hf
  have eO : bs (printL l) = if l.hasF then (if l.hasQ then bs (originL l) ++ bs l.path ++ (bs [63] ++ bs l.query) else bs (originL l) ++ bs l.path) ++ (bs [35] ++ bs l.frag) else (if l.hasQ then bs (originL l) ++ bs l.path ++ (bs [63] ++ bs l.query) else bs (originL l) ++ bs l.path) := by
    unfold printL qT fT
    rw [← bs_cat, ← bs_cat, ← bs_cat]
    have e1 : ∀ c k, bs (c :: k) = bs [c] ++ bs k := fun c k => (bs_cat [c] k).symm
    have e2 : ∀ S : ByteArray, S ++ bs [] = S := by
      intro S
      apply ByteArray.ext
      rw [ByteArray.data_append]
      simp [bs]
    cases l.hasQ <;> cases l.hasF <;> simp only [if_true, if_false, Bool.false_eq_true, e2, e1 63 l.query, e1 35 l.frag]
  rw [eO]
  unfold lnk at *
  generalize bs (originL l) = SO at *
  generalize bs l.scheme = S1 at *
  generalize bs l.host = S2 at *
  generalize bs l.path = S3 at *
  generalize bs l.query = S4 at *
  generalize bs l.frag = S5 at *
  generalize l.hasQ = bq at *
  generalize l.hasF = bf at *
  clear eO hl hp hq hf
  generalize ((l.port : Nat) : Int) = y at *
  have hA := Lib.hid (fun x : Obj => below_one w x)
  have hC : ∀ (j : Nat) (v : Value) (cs : Array Value), cs[j]? = some v → (w.alloc (.cells cs 24)).cell? ⟨w.heap.size, j, none⟩ = some v := by
    intro j v cs h
    rw [cell_of_row _ w.heap.size j cs 24 (0, 0) (heap_alloc_new w _)]
    exact h
  have HC := Lib.hid hC
  clear hC
  go_enter Tryz.func16, Tryz.ntmps16
  go_wp2_with fail
  have c0 := HC.out 0 (.string S1) #[.string S1, .string S2, .int .i64 y, .string S3, .string S4, .string S5, .bool bq, .bool bf] rfl
  have c1 := HC.out 1 (.string S2) #[.string S1, .string S2, .int .i64 y, .string S3, .string S4, .string S5, .bool bq, .bool bf] rfl
  have c2 := HC.out 2 (.int .i64 y) #[.string S1, .string S2, .int .i64 y, .string S3, .string S4, .string S5, .bool bq, .bool bf] rfl
  have c3 := HC.out 3 (.string S3) #[.string S1, .string S2, .int .i64 y, .string S3, .string S4, .string S5, .bool bq, .bool bf] rfl
  have c4 := HC.out 4 (.string S4) #[.string S1, .string S2, .int .i64 y, .string S3, .string S4, .string S5, .bool bq, .bool bf] rfl
  have c5 := HC.out 5 (.string S5) #[.string S1, .string S2, .int .i64 y, .string S3, .string S4, .string S5, .bool bq, .bool bf] rfl
  have c6 := HC.out 6 (.bool bq) #[.string S1, .string S2, .int .i64 y, .string S3, .string S4, .string S5, .bool bq, .bool bf] rfl
  have c7 := HC.out 7 (.bool bf) #[.string S1, .string S2, .int .i64 y, .string S3, .string S4, .string S5, .bool bq, .bool bf] rfl
  have hb1 : Below w.heap.size w (w.alloc (.cells #[.string S1, .string S2, .int .i64 y, .string S3, .string S4, .string S5, .bool bq, .bool bf] 24)) := hA.out _
  have hs1 : (w.alloc (.cells #[.string S1, .string S2, .int .i64 y, .string S3, .string S4, .string S5, .bool bq, .bool bf] 24)).heap.size = w.heap.size + 1 := by show (w.heap.push _).size = _; rw [Array.size_push]
  clear HC hA
  generalize w.alloc (.cells #[.string S1, .string S2, .int .i64 y, .string S3, .string S4, .string S5, .bool bq, .bool bf] 24) = W1 at *
  generalize hg : w.heap.size = g at *
  have HS := Lib.hid hs1
  have HB1 := Lib.hid hb1
  clear hs1 hb1
  have zs : ¬ 9223372036854775807 < SO.size + S3.size := by omega
  have hBd : Below W1.heap.size W1 W1.drew := (Below.refl _ W1).drew
  go_region_held3 (fun w' => Below W1.heap.size W1 w' ∧ w'.cell? ⟨g, 0, none⟩ = some (.string S1) ∧ w'.cell? ⟨g, 1, none⟩ = some (.string S2) ∧ w'.cell? ⟨g, 2, none⟩ = some (.int .i64 y) ∧ w'.cell? ⟨g, 3, none⟩ = some (.string S3) ∧ w'.cell? ⟨g, 4, none⟩ = some (.string S4) ∧ w'.cell? ⟨g, 5, none⟩ = some (.string S5) ∧ w'.cell? ⟨g, 6, none⟩ = some (.bool bq) ∧ w'.cell? ⟨g, 7, none⟩ = some (.bool bf)) (go_keep) ((go_at_call 51; refine (hc.out _ ?_).mono ?_; (focus (refine HB1.out.trans (Below.mono (by assumption) ?_); (have := HS.out; omega))); rintro e w5 ⟨rfl, hb5⟩; have hbk := below_then' (by assumption) hb5; have k0 := cell_stays HS.out hbk c0; have k1 := cell_stays HS.out hbk c1; have k2 := cell_stays HS.out hbk c2; have k3 := cell_stays HS.out hbk c3; have k4 := cell_stays HS.out hbk c4; have k5 := cell_stays HS.out hbk c5; have k6 := cell_stays HS.out hbk c6; have k7 := cell_stays HS.out hbk c7; clear hb5))
  all_goals clear zs
  all_goals have hW := HB1.out.trans (hbk.mono (by have := HS.out; omega))
  all_goals clear hBd hbk
  all_goals cases bq <;> cases bf
  all_goals go_wp2_with fail
  all_goals go_ret
  all_goals exact ⟨rfl, hW⟩
end Go.Proofs.YtcpkkaimingnlaaGreatDoor
end
