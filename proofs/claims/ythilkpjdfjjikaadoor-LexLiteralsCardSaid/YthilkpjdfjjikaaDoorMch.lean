/-
  The program's machine: its small functions.
-/
import Derived.Test.YthilkpjdfjjikaaDoorChecked
import Derived.Test.YthilkpjdfjjikaaDoorKit
import Derived.Test.YthilkpjdfjjikaaDoorShelf
import Derived.Test.YthilkpjdfjjikaaDoorMac
import Derived.Lib.IndexAny
namespace Go.Proofs.YthilkpjdfjjikaaDoor
open Go.RowKit

def bs (l : Bs) : ByteArray := ⟨l.toArray⟩
def u8v (c : UInt8) : Value := .int .u8 ((c.toNat : Nat) : Int)
theorem byte_back (c : UInt8) : ((c.toNat : Nat) : Int).toNat.toUInt8 = c := by simp
theorem blank_contains (c : UInt8) : blankB c = ([32, 9, 10, 12, 13] : Bs).contains c := by
  unfold blankB
  simp [List.contains_cons, Bool.or_assoc]
  rfl
theorem blank_any (c : UInt8) (w : World) : Calls Tryd.prog 66 #[u8v c] w fun e w' => e = .returned (.bool (blankB c)) ∧ w' = w := by
  have H79 : Hid (Calls Tryd.prog 79 #[.string ⟨#[32, 9, 10, 12, 13]⟩, u8v c] w fun e w' => e = .returned (.int .i64 (Lib.indexByte [32, 9, 10, 12, 13] c)) ∧ w' = w) := by
    have := Tryd.strings_IndexByte ⟨#[32, 9, 10, 12, 13]⟩ ((c.toNat : Nat) : Int) w
    rw [byte_back] at this
    exact this
  have hb : blankB c = decide (0 ≤ Lib.indexByte [32, 9, 10, 12, 13] c) := by rw [blank_contains, Lib.contains_iff_indexByte]
  rw [hb]
  generalize Lib.indexByte [32, 9, 10, 12, 13] c = i at H79
  go_enter Tryd.func66, Tryd.ntmps66
  go_wp2_with fail
  refine H79.out.mono ?_
  rintro e w' ⟨rfl, rfl⟩
  go_wp2_with fail
  go_ret
  exact ⟨rfl, rfl⟩
theorem letter_any (c : UInt8) (w : World) : Calls Tryd.prog 41 #[u8v c] w fun e w' => e = .returned (.bool (letterB c)) ∧ w' = w := by
  unfold letterB u8v
  generalize c.toNat = n
  go_enter Tryd.func41, Tryd.ntmps41
  go_wp2_with fail
  all_goals go_ret
  all_goals refine ⟨congrArg (fun b => Ending.returned (Value.bool b)) ?_, rfl⟩
  all_goals first | (simp_all; done) | (rw [Bool.eq_iff_iff]; simp; omega) | trace_state
theorem conv_one (w : World) (x : Nat) (c : UInt8) (hx : x = c.toNat) : (convert 92 9 (.slice (some ⟨w.heap.size, 0, none⟩) 1 1)).run Tryd.prog (w.alloc (.cells #[.int .u8 (x : Int)] 5)) = .ok (.string (bs [c])) (w.alloc (.cells #[.int .u8 (x : Int)] 5)) := by
  subst hx
  refine run_convert_bytes_back _ 92 9 5 ⟨w.heap.size, 0, none⟩ 1 [c] Tryd.underlying92 Tryd.underlying5 Tryd.underlying9 ?_
  intro j hj
  have hj0 : j = 0 := by simpa using hj
  subst hj0
  rw [add_eq, cell_of_row _ w.heap.size (0 + 0) #[.int .u8 ((c.toNat : Nat) : Int)] 5 (0, 0) (heap_alloc_new w _)]
  rfl
theorem small_nat (c : UInt8) : (smallB c).toNat = if 65 ≤ c.toNat ∧ c.toNat ≤ 90 then c.toNat + 32 else c.toNat := by
  unfold smallB
  by_cases h : 65 ≤ c.toNat ∧ c.toNat ≤ 90
  · rw [if_pos (by simpa using h), if_pos h, UInt8.toNat_add]
    have : (32 : UInt8).toNat = 32 := rfl
    rw [this]; omega
  · rw [if_neg (by simpa using h), if_neg h]
set_option maxRecDepth 100000 in
theorem small_any (c : UInt8) (w : World) : Calls Tryd.prog 43 #[u8v c] w fun e w' => e = .returned (.string (bs [smallB c])) ∧ w' = w.alloc (.cells #[u8v (smallB c)] 5) := by
  have hn := small_nat c
  have hlt := c.toNat_lt
  have hcv := conv_one w (smallB c).toNat (smallB c) rfl
  unfold u8v
  obtain ⟨R, hR⟩ : ∃ R, R = bs [smallB c] := ⟨_, rfl⟩
  rw [← hR] at hcv ⊢
  generalize (smallB c).toNat = m at hn hcv ⊢
  generalize c.toNat = n at hn hlt ⊢
  clear hR
  by_cases h : 65 ≤ n ∧ n ≤ 90
  · rw [if_pos h] at hn
    subst hn
    obtain ⟨h1, h2⟩ := h
    have hz : (((n + 32 : Nat) : Nat) : Int) = (n : Int) + 32 := by omega
    rw [hz] at hcv ⊢
    go_enter Tryd.func43, Tryd.ntmps43
    go_wp2_with fail
    go_ret
    exact ⟨rfl, rfl⟩
  · rw [if_neg h] at hn
    subst hn
    by_cases h1 : 65 ≤ m
    · have h2 : ¬ (m ≤ 90) := fun h2 => h ⟨h1, h2⟩
      clear h
      go_enter Tryd.func43, Tryd.ntmps43
      go_wp2_with fail
      go_ret
      exact ⟨rfl, rfl⟩
    · clear h
      go_enter Tryd.func43, Tryd.ntmps43
      go_wp2_with fail
      go_ret
      exact ⟨rfl, rfl⟩
end Go.Proofs.YthilkpjdfjjikaaDoor
