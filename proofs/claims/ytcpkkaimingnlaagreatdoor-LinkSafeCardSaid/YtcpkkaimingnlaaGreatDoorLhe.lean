/-
  link.hex: what two digits are, of any text; which rests of a link are right.
-/
import Derived.Test.YtcpkkaimingnlaaGreatDoorLhx
namespace Go.Proofs.YtcpkkaimingnlaaGreatDoor
open Go.RowKit

def hexChars : Bs := [48, 49, 50, 51, 52, 53, 54, 55, 56, 57, 97, 98, 99, 100, 101, 102, 65, 66, 67, 68, 69, 70]
theorem idx_hex : ∀ i : Fin 256, decide (Lib.indexByte hexChars (UInt8.ofNat i.val) ≥ 0) = hexB (UInt8.ofNat i.val) := by decide +kernel
theorem idx_marks : ∀ i : Fin 256, decide (Lib.indexByte marksB (UInt8.ofNat i.val) ≥ 0) = marksB.contains (UInt8.ofNat i.val) := by decide +kernel
theorem byte_back (c : UInt8) : ((c.toNat : Nat) : Int).toNat.toUInt8 = c := by simp
theorem fin_byte (c : UInt8) : UInt8.ofNat (Fin.val (⟨c.toNat, c.toNat_lt⟩ : Fin 256)) = c := by simp
set_option maxHeartbeats 1000000 in
theorem hexd_fn (c : UInt8) (w : World) : Calls Tryz.prog 111 #[u8v c] w fun e w' => e = .returned (.bool (hexB c)) ∧ w' = w := by
  have hi := idx_hex ⟨c.toNat, c.toNat_lt⟩
  rw [fin_byte] at hi
  have h64 := fun W => Tryz.strings_IndexByte (bs hexChars) ((c.toNat : Nat) : Int) W
  simp only [byte_back] at h64
  have e : (bs hexChars).data.toList = hexChars := rfl
  rw [e] at h64
  have e2 : bs hexChars = ⟨#[48, 49, 50, 51, 52, 53, 54, 55, 56, 57, 97, 98, 99, 100, 101, 102, 65, 66, 67, 68, 69, 70]⟩ := rfl
  rw [e2] at h64
  unfold u8v
  generalize Lib.indexByte hexChars c = r at *
  generalize hexB c = hb at *
  generalize ((c.toNat : Nat) : Int) = n at *
  have H64 := Lib.hid h64
  clear h64 e e2
  go_enter Tryz.func111, Tryz.ntmps111
  go_wp2_with (go_at_call 64; refine (H64.out _).mono ?_; rintro e w' ⟨rfl, rfl⟩)
  go_ret
  exact ⟨by rw [← hi]; rfl, rfl⟩
set_option maxHeartbeats 2000000 in
set_option maxRecDepth 100000 in
theorem all111_any (s : Bs) (w : World) (hl : s.length ≤ 1000000) :
    Calls Tryz.prog 42 #[.string (bs s), .func (.func 111) #[] #[]] w fun e w' => e = .returned (.bool (s.all hexB)) ∧ w' = w := by
  have eg : ∀ args w, (callFunc 111 args).run Tryz.prog w = .ok (.enter 111 args) w := enters_of Tryz.func111 (by kernel_rfl) rfl
  have hz : (bs s).size = s.length := bs_size s
  have HX := Lib.hid (fun (i : Nat) (h : i < s.length) (w : World) => str_byte s i h w)
  obtain ⟨R, hR⟩ : ∃ R, R = s.all hexB := ⟨_, rfl⟩
  rw [← hR]
  obtain ⟨S, hS⟩ : ∃ S, S = bs s := ⟨_, rfl⟩
  rw [← hS] at hz ⊢
  simp only [← hS] at HX
  obtain ⟨n, hn⟩ : ∃ n, n = s.length := ⟨_, rfl⟩
  rw [← hn] at hz hl
  have HR := Lib.hid hR; have Hn := Lib.hid hn
  clear hR hS hn
  go_enter Tryz.func42, Tryz.ntmps42
  go_wp2_with fail
  go_loop [8] (fun i => ∃ j : Nat, i = .int .i64 (j : Int) ∧ j ≤ n ∧ (s.take j).all hexB = true) (fun i => n - (intOf i).toNat)
  case atStart => exact ⟨0, rfl, Nat.zero_le _, rfl⟩
  case round =>
    obtain ⟨j, rfl, hj, hall⟩ := hrel
    have HA := Lib.hid hall
    clear hall
    by_cases hjn : j < n
    · have tj : decide ((j : Int) < (n : Int)) = true := by rw [decide_eq_true_eq]; omega
      have hx := fun W => HX.out j (by rw [← Hn.out]; exact hjn) W
      have hts : s.take (j + 1) = s.take j ++ [s.getD j 0] := by
        have hjl : j < s.length := by rw [← Hn.out]; exact hjn
        rw [List.take_succ_eq_append_getElem hjl]; simp [hjl]
      have hmem : s.getD j 0 ∈ s := by
        have hjl : j < s.length := by rw [← Hn.out]; exact hjn
        simp [hjl]
      have hC := hexd_fn (s.getD j 0)
      obtain ⟨c, hc⟩ : ∃ c, c = s.getD j 0 := ⟨_, rfl⟩
      rw [← hc] at hts hmem hC
      simp only [← hc] at hx
      have HTS := Lib.hid hts; have HM := Lib.hid hmem
      clear hc hts hmem
      unfold u8v at hC
      cases hp : hexB c with
      | true =>
        rw [hp] at hC
        have HC := Lib.hid hC
        have e1 : (s.take (j + 1)).all hexB = true := by rw [HTS.out, List.all_append, HA.out]; simp [hp]
        have E1 := Lib.hid e1
        clear e1 hC hp
        go_wp2_with (go_at_fn 111; refine (HC.out _).mono ?_; rintro e w9 ⟨rfl, rfl⟩)
        exact ⟨⟨j + 1, by go_num, by omega, E1.out⟩, by simp [intOf]; omega⟩
      | false =>
        rw [hp] at hC
        have HC := Lib.hid hC
        have e1 : R = false := by
          rw [HR.out]
          cases h : s.all hexB with
          | false => rfl
          | true => exact absurd (List.all_eq_true.1 h c HM.out) (by rw [hp]; decide)
        have E1 := Lib.hid e1
        clear e1 hC hp
        go_wp2_with (go_at_fn 111; refine (HC.out _).mono ?_; rintro e w9 ⟨rfl, rfl⟩)
        go_ret
        exact ⟨by rw [E1.out]; rfl, rfl⟩
    · obtain rfl : j = n := by omega
      have tj : decide ((j : Int) < (j : Int)) = false := by rw [decide_eq_false_iff_not]; omega
      have e1 : R = true := by
        rw [HR.out]
        have := HA.out
        rwa [List.take_of_length_le (by rw [← Hn.out]; exact Nat.le_refl _)] at this
      have E1 := Lib.hid e1
      clear e1
      go_wp2_with fail
      go_ret
      exact ⟨by rw [E1.out]; rfl, rfl⟩
set_option maxHeartbeats 1000000 in
theorem pu16p_any (a b : UInt8) (ha : hexB a = true) (hb : hexB b = true) (w : World) :
    Calls Tryz.prog 83 #[.string (bs [a, b]), .int .i64 16, .int .i64 8] w fun e w' => e = .returned (.tuple #[.int .u64 ((16 * hexV a + hexV b : Nat) : Int), .nilIface]) ∧ Below w.heap.size w w' := by
  have H := Lib.hid (fun W => pu16_any a b ha hb W)
  generalize bs [a, b] = S at *
  generalize ((16 * hexV a + hexV b : Nat) : Int) = r at *
  clear ha hb
  go_enter Tryz.func83, Tryz.ntmps83
  go_wp2_with (go_at_call 109; refine (H.out _).mono ?_; rintro e w' ⟨rfl, hb⟩)
  go_ret2
  exact ⟨rfl, hb⟩
def hexZ (s : Bs) : Int := match s with
  | a :: b :: _ => if (hexB a && hexB b) = true then ((16 * hexV a + hexV b : Nat) : Int) else -1
  | _ => -1
theorem hexZ_neg (s : Bs) : decide (hexZ s < 0) = !hex2 s := by
  match s with
  | [] => rfl
  | [a] => rfl
  | a :: b :: t =>
    rw [hex2_cons, show hexZ (a :: b :: t) = if (hexB a && hexB b) = true then ((16 * hexV a + hexV b : Nat) : Int) else -1 from rfl]
    by_cases h : (hexB a && hexB b) = true
    · rw [if_pos h, h, decide_eq_false (by omega)]; rfl
    · have h' : (hexB a && hexB b) = false := by simpa using h
      rw [if_neg h, h']; rfl
set_option maxHeartbeats 2000000 in
theorem hex_any (s : Bs) (w : World) (hl : s.length ≤ 1000000) :
    Calls Tryz.prog 84 #[.string (bs s)] w fun e w' => e = .returned (.int .i64 (hexZ s)) ∧ Below w.heap.size w w' := by
  have hz : (bs s).size = s.length := bs_size s
  by_cases h2 : s.length < 2
  · have hR : hexZ s = -1 := by
      match s, h2 with
      | [], _ => rfl
      | [a], _ => rfl
    have t1 : decide ((s.length : Int) < 2) = true := by rw [decide_eq_true_eq]; omega
    rw [hR]
    generalize bs s = S at *
    clear hR
    generalize s.length = n at *
    go_enter Tryz.func84, Tryz.ntmps84
    go_wp2_with fail
    go_ret
    exact ⟨rfl, Below.refl _ _⟩
  · have t1 : decide ((s.length : Int) < 2) = false := by rw [decide_eq_false_iff_not]; omega
    match s, h2 with
    | a :: b :: t, _ =>
      have hst := fun W => str_to (a :: b :: t) 2 (by simp) W
      have e2 : (a :: b :: t : Bs).take 2 = [a, b] := rfl
      rw [e2] at hst
      have hst : ∀ W, (Instr.slice 9 (.string (bs (a :: b :: t))) none (some (.int .i64 2)) none).run Tryz.prog W = .ok (.string (bs [a, b])) W := hst
      have h42 := fun W => all111_any [a, b] W (by simp)
      have ea : ([a, b] : Bs).all hexB = (hexB a && hexB b) := by simp
      rw [ea] at h42
      have hp := pu16p_any a b
      have hR : hexZ (a :: b :: t) = if (hexB a && hexB b) = true then ((16 * hexV a + hexV b : Nat) : Int) else -1 := rfl
      rw [hR]
      have va : hexB a = true → hexV a < 16 := hexV_lt
      have vb : hexB b = true → hexV b < 16 := hexV_lt
      obtain ⟨n, hn⟩ : ∃ n, n = (a :: b :: t).length := ⟨_, rfl⟩
      rw [← hn] at hz t1 hl
      generalize bs (a :: b :: t) = S at *
      generalize bs [a, b] = T at *
      clear e2 ea hR hn
      cases hh : hexB a && hexB b with
      | true =>
        rw [hh] at h42
        rw [Bool.and_eq_true] at hh
        have hp := hp hh.1 hh.2
        have va := va hh.1
        have vb := vb hh.2
        obtain ⟨r, hr⟩ : ∃ r : Int, r = ((16 * hexV a + hexV b : Nat) : Int) := ⟨_, rfl⟩
        simp only [← hr] at hp
        rw [if_pos rfl, ← hr]
        have r0 : 0 ≤ r := by omega
        have r1 : r ≤ 255 := by omega
        have H42 := Lib.hid h42; have HP := Lib.hid hp
        clear h42 hp hh va vb hr
        go_enter Tryz.func84, Tryz.ntmps84
        go_wp2_with (first | (go_at_call 42; refine (H42.out _).mono ?_; rintro e w' ⟨rfl, rfl⟩) | (go_at_call 83; refine (HP.out _).mono ?_; rintro e w' ⟨rfl, hb⟩))
        go_ret
        exact ⟨rfl, hb⟩
      | false =>
        rw [hh] at h42
        have H42 := Lib.hid h42
        clear h42 hp hh va vb
        rw [if_neg (by decide)]
        go_enter Tryz.func84, Tryz.ntmps84
        go_wp2_with (go_at_call 42; refine (H42.out _).mono ?_; rintro e w' ⟨rfl, rfl⟩)
        go_ret
        exact ⟨rfl, Below.refl _ _⟩
end Go.Proofs.YtcpkkaimingnlaaGreatDoor
