/-
  The reference's One and Text.
-/
import Derived.Test.YtpmndnijejnhnaaDoorFix
namespace Go.Proofs.YtpmndnijejnhnaaDoor
open Go.RowKit

def b8s (l : List UInt8) : List Value := l.map fun x => Value.int .u8 (x.toNat : Nat)
theorem b8s_length (l : List UInt8) : (b8s l).length = l.length := by simp [b8s]
theorem b8s_append (a b : List UInt8) : b8s (a ++ b) = b8s a ++ b8s b := by simp [b8s]
theorem b8s_one (l : List UInt8) : ∀ u ∈ b8s l, u.oneCell' = true := by
  intro u hu; simp only [b8s, List.mem_map] at hu; obtain ⟨x, _, rfl⟩ := hu; rfl
/-- A code point's bytes. -/
def oneL (p : Nat) : List UInt8 :=
  if p < 128 then [UInt8.ofNat p]
  else if p < 2048 then [UInt8.ofNat (192 + p / 64), UInt8.ofNat (128 + p % 64)]
  else if p < 65536 then [UInt8.ofNat (224 + p / 4096), UInt8.ofNat (128 + p / 64 % 64), UInt8.ofNat (128 + p % 64)]
  else [UInt8.ofNat (240 + p / 262144), UInt8.ofNat (128 + p / 4096 % 64), UInt8.ofNat (128 + p / 64 % 64), UInt8.ofNat (128 + p % 64)]

theorem u8v (n : Nat) (z : Int) (hz : z = (n : Int)) (h : n < 256) : Value.int .u8 z = .int .u8 ((UInt8.ofNat n).toNat : Nat) := by
  rw [hz]; congr 1
  simp [UInt8.toNat_ofNat]; omega
theorem own_lit (w : World) (l : List UInt8) (cs : List Value) (n : Nat) (hn : n = l.length) (hm : n ≤ 100) (hcs : cs = b8s l) : (w.alloc (.cells cs.toArray 5)).ownsRow w.heap.size 5 1 (.slice (some ⟨w.heap.size, 0, none⟩) n n) l.length (b8s l) := by
  subst hn hcs
  refine ⟨by simp [b8s], .inr ⟨w.heap.size, l.length, _, rfl, Nat.le_refl _, heap_alloc_new w _, Nat.le_refl _, by unfold maxLen; omega, by simp [b8s], List.take_of_length_le (by simp [b8s])⟩⟩

set_option maxHeartbeats 2000000 in
set_option maxRecDepth 1000000 in
theorem one_any (p : Nat) (w : World) (hp : p ≤ 1114111) :
    Calls Tryd.prog 35 #[.int .i64 (p : Int)] w fun e w' => ∃ v, e = .returned v ∧ w'.ownsRow w.heap.size 5 1 v (oneL p).length (b8s (oneL p)) ∧ Below w.heap.size w w' := by
  by_cases h1 : p < 128
  · go_enter Tryd.func35, Tryd.ntmps35
    go_wp2_with fail
    go_ret
    refine ⟨_, rfl, ?_, (Below.refl _ w).alloc (Nat.le_refl _) _⟩
    have e : oneL p = [UInt8.ofNat p] := if_pos h1
    rw [e]
    exact own_lit w _ [.int .u8 (p : Int)] 1 rfl (by decide) (by rw [u8v p (p : Int) rfl (by omega)]; rfl)
  · by_cases h2 : p < 2048
    · go_enter Tryd.func35, Tryd.ntmps35
      go_wp2_with fail
      go_ret
      refine ⟨_, rfl, ?_, (Below.refl _ w).alloc (Nat.le_refl _) _⟩
      have e : oneL p = [UInt8.ofNat (192 + p / 64), UInt8.ofNat (128 + p % 64)] := by unfold oneL; rw [if_neg h1, if_pos h2]
      rw [e]
      exact own_lit w _ [.int .u8 (192 + (p : Int) / 64), .int .u8 (128 + (p : Int) % 64)] 2 rfl (by decide) (by rw [u8v (192 + p / 64) (192 + (p : Int) / 64) (by omega) (by omega), u8v (128 + p % 64) (128 + (p : Int) % 64) (by omega) (by omega)]; rfl)
    · by_cases h3 : p < 65536
      · go_enter Tryd.func35, Tryd.ntmps35
        go_wp2_with fail
        go_ret
        refine ⟨_, rfl, ?_, (Below.refl _ w).alloc (Nat.le_refl _) _⟩
        have e : oneL p = [UInt8.ofNat (224 + p / 4096), UInt8.ofNat (128 + p / 64 % 64), UInt8.ofNat (128 + p % 64)] := by unfold oneL; rw [if_neg h1, if_neg h2, if_pos h3]
        rw [e]
        exact own_lit w _ [.int .u8 (224 + (p : Int) / 4096), .int .u8 (128 + (p : Int) / 64 % 64), .int .u8 (128 + (p : Int) % 64)] 3 rfl (by decide) (by rw [u8v (224 + p / 4096) (224 + (p : Int) / 4096) (by omega) (by omega), u8v (128 + p / 64 % 64) (128 + (p : Int) / 64 % 64) (by omega) (by omega), u8v (128 + p % 64) (128 + (p : Int) % 64) (by omega) (by omega)]; rfl)
      · go_enter Tryd.func35, Tryd.ntmps35
        go_wp2_with fail
        go_ret
        refine ⟨_, rfl, ?_, (Below.refl _ w).alloc (Nat.le_refl _) _⟩
        have e : oneL p = [UInt8.ofNat (240 + p / 262144), UInt8.ofNat (128 + p / 4096 % 64), UInt8.ofNat (128 + p / 64 % 64), UInt8.ofNat (128 + p % 64)] := by unfold oneL; rw [if_neg h1, if_neg h2, if_neg h3]
        rw [e]
        exact own_lit w _ [.int .u8 (240 + (p : Int) / 262144), .int .u8 (128 + (p : Int) / 4096 % 64), .int .u8 (128 + (p : Int) / 64 % 64), .int .u8 (128 + (p : Int) % 64)] 4 rfl (by decide) (by rw [u8v (240 + p / 262144) (240 + (p : Int) / 262144) (by omega) (by omega), u8v (128 + p / 4096 % 64) (128 + (p : Int) / 4096 % 64) (by omega) (by omega), u8v (128 + p / 64 % 64) (128 + (p : Int) / 64 % 64) (by omega) (by omega), u8v (128 + p % 64) (128 + (p : Int) % 64) (by omega) (by omega)]; rfl)
end Go.Proofs.YtpmndnijejnhnaaDoor
