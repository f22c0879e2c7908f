/-
  strings.IndexRune of a code point beyond ASCII in a text of ASCII: it is not there.
-/
import Derived.Test.YtcpkkaimingnlaaGreatDoorLpo
import Derived.Deep.QuietTactic
import Derived.BigQuiet
import Derived.Laws.Runes
import Derived.WalkMore
namespace Go.Proofs.YtcpkkaimingnlaaGreatDoor
open Go.RowKit

set_option maxHeartbeats 4000000 in
set_option maxRecDepth 100000 in
theorem ir_none (S R S' : ByteArray) (r : Int) (k n : Nat) (a b : Int) (h : 128 ≤ r) (h2 : r ≠ 65533) (hv : Lib.validRune r = true) (hR : Utf8.encode r = R) (hRs : R.size = k + 1) (hk : 1 ≤ k) (hS : S.size = n) (hk5 : k < n) (hk3 : k ≤ 3)
    (hi1 : ∀ w, (Instr.index 9 (.string S) (.int .i64 (k : Int))).run Tryz.prog w = .ok (.int .u8 a) w)
    (hi2 : ∀ w, (Instr.index 9 (.string R) (.int .i64 (k : Int))).run Tryz.prog w = .ok (.int .u8 b) w)
    (hsl : ∀ w, (Instr.slice 9 (.string S) (some (.int .i64 ((k : Int) + 1))) none none).run Tryz.prog w = .ok (.string S') w)
    (hab : (a != b) = true) (hx : Lib.indexByte S'.data.toList b.toNat.toUInt8 = -1) (w : World) :
    Calls Tryz.prog 79 #[.string S, .int .i32 r] w fun e w' => e = .returned (.int .i64 (-1)) ∧ ∃ q, w' = w.drewN q := by
  have t1 : decide (0 ≤ r) = true := by rw [decide_eq_true_eq]; omega
  have t2 : decide (r < 128) = false := by rw [decide_eq_false_iff_not]; omega
  have t3 : (r == 65533) = false := by simpa using h2
  have H37 := Lib.hid (Tryz.utf8_ValidRune r w)
  have H48 := Lib.hid (fun w => Tryz.strings_IndexByte S' b w)
  rw [hv] at H37
  rw [hx] at H48
  have hkz : ((k + 1 : Nat) : Int) - 1 = (k : Int) := by omega
  have hRz : (R.size : Int) = (k : Int) + 1 := by omega
  have hSz : (S.size : Int) = (n : Int) := by omega
  have hcv : ∀ w, (convert 21 9 (.int .i32 r)).run Tryz.prog w = .ok (.string R) w := by
    intro w; rw [run_convert_int_string w 21 9 .i32 r (by kernel_rfl) Tryz.underlying9, hR]
  clear hv h2 h hx hRs hS hR
  go_enter Tryz.func79, Tryz.ntmps79
  go_wp2_with fail
  refine H37.out.mono ?_
  rintro e w' ⟨rfl, rfl⟩
  go_wp2_with fail
  go_step3
  go_wp2_with fail
  go_loopw [9] (fun i wr => i = .int .i64 (k : Int) ∧ wr = w') (fun _ _ => 1)
  case atStart => exact ⟨rfl, rfl⟩
  case round =>
    obtain ⟨rfl, rfl⟩ := hrel
    have hk1 : (k : Int) < (n : Int) := by omega
    go_wp2_with fail
    go_step3
    go_wp2_with fail
    go_quiet (fail)
    go_wp2_with fail
    have hwr : IntKind.i64.wrap ((k : Int) + 1) = (k : Int) + 1 := by rw [IntKind.wrap_i64]; omega
    go_quiet ((go_at_call 64; exact quiet_add_left ((H48.out _).mono fun _ _ h => ⟨h.1, h.2.symm⟩)))
    go_wp2_with fail
    rw [Exit.noGoto_ret]
    simp +zetaDelta only [Exit.inBlock, Exit.noGoto, Exit.then]
    go_ret
    exact ⟨rfl, _, rfl⟩

set_option maxHeartbeats 4000000 in
set_option maxRecDepth 100000 in
theorem ir_shut (S R : ByteArray) (r : Int) (k n : Nat) (h : 128 ≤ r) (h2 : r ≠ 65533) (hv : Lib.validRune r = true) (hR : Utf8.encode r = R) (hRs : R.size = k + 1) (hk : 1 ≤ k) (hS : S.size = n) (hk5 : n ≤ k) (hk3 : k ≤ 3) (w : World) :
    Calls Tryz.prog 79 #[.string S, .int .i32 r] w fun e w' => e = .returned (.int .i64 (-1)) ∧ ∃ q, w' = w.drewN q := by
  have t1 : decide (0 ≤ r) = true := by rw [decide_eq_true_eq]; omega
  have t2 : decide (r < 128) = false := by rw [decide_eq_false_iff_not]; omega
  have t3 : (r == 65533) = false := by simpa using h2
  have H37 := Lib.hid (Tryz.utf8_ValidRune r w)
  rw [hv] at H37
  have hkz : ((k + 1 : Nat) : Int) - 1 = (k : Int) := by omega
  have hRz : (R.size : Int) = (k : Int) + 1 := by omega
  have hSz : (S.size : Int) = (n : Int) := by omega
  have hcv : ∀ w, (convert 21 9 (.int .i32 r)).run Tryz.prog w = .ok (.string R) w := by
    intro w; rw [run_convert_int_string w 21 9 .i32 r (by kernel_rfl) Tryz.underlying9, hR]
  clear hv h2 h hRs hS hR
  go_enter Tryz.func79, Tryz.ntmps79
  go_wp2_with fail
  refine H37.out.mono ?_
  rintro e w' ⟨rfl, rfl⟩
  go_wp2_with fail
  go_step3
  go_wp2_with fail
  go_loopw [9] (fun i wr => i = .int .i64 (k : Int) ∧ wr = w') (fun _ _ => 1)
  case atStart => exact ⟨rfl, rfl⟩
  case round =>
    obtain ⟨rfl, rfl⟩ := hrel
    have hk1 : ¬ (k : Int) < (n : Int) := by omega
    go_wp2_with fail
    go_ret
    exact ⟨rfl, 0, rfl⟩

set_option maxHeartbeats 4000000 in
set_option maxRecDepth 100000 in
theorem ir_err (l : List UInt8) (hl : ∀ x ∈ l, x.toNat < 128) (w : World) :
    Calls Tryz.prog 79 #[.string ⟨l.toArray⟩, .int .i32 65533] w fun e w' => e = .returned (.int .i64 (-1)) ∧ Below w.heap.size w w' := by
  have hsz : (⟨l.toArray⟩ : ByteArray).size = l.length := by simp [ByteArray.size]
  have hdec : ∀ i, i < l.length → Utf8.decode ⟨l.toArray⟩ i = ((l.getD i 0).toNat, 1) ∧ (l.getD i 0).toNat < 128 := by
    intro i hi
    have hx : (l.getD i 0).toNat < 128 := hl _ (by simp [hi])
    refine ⟨?_, hx⟩
    have hi' : i < (⟨l.toArray⟩ : ByteArray).size := by rw [hsz]; exact hi
    have e : (⟨l.toArray⟩ : ByteArray)[i]'hi' = l.getD i 0 := by
      show l.toArray[i]'_ = _
      simp [hi]
    rw [← e] at hx ⊢
    exact decode_ascii _ _ hi' hx
  obtain ⟨S, hS⟩ : ∃ S, S = (⟨l.toArray⟩ : ByteArray) := ⟨_, rfl⟩
  rw [← hS] at hdec hsz ⊢
  clear hS hl
  obtain ⟨n, hn⟩ : ∃ n, n = l.length := ⟨_, rfl⟩
  rw [← hn] at hsz hdec
  have Hsz := Lib.hid hsz; have Hdec := Lib.hid hdec; clear hn hsz hdec
  go_enter Tryz.func79, Tryz.ntmps79
  go_wp2_with fail
  go_loopw [] (fun wr => ∃ m : Nat, m ≤ n ∧ wr.heap[w.heap.size]? = some (.stringIter S m) ∧ Below w.heap.size w wr)
    (fun wr => n - wr.iterPos w.heap.size)
  case atStart => exact ⟨0, by omega, World.iter_heap w S 0, (Below.refl _ w).alloc (Nat.le_refl _) _⟩
  case round =>
    obtain ⟨m, hm, hit, hB⟩ := hrel
    have hip : wr.iterPos w.heap.size = m := by unfold World.iterPos; rw [hit]
    have Hip := Lib.hid hip
    clear hip
    by_cases hmn : m < n
    · obtain ⟨hd, hx⟩ := Hdec.out m hmn
      obtain ⟨x, hxe⟩ : ∃ x, x = (l.getD m 0).toNat := ⟨_, rfl⟩
      rw [← hxe] at hd hx
      have hnx := fun ty => Lib.run_next_any_at (P := Tryz.prog) wr w.heap.size S m ty hit (by rw [Hsz.out]; exact hmn)
      rw [hd] at hnx
      dsimp only at hnx
      have tx : ((x : Int) == 65533) = false := by simp; omega
      obtain ⟨W, hW⟩ : ∃ W, W = wr.iterAt w.heap.size S (m + 1) := ⟨_, rfl⟩
      rw [← hW] at hnx
      have hitW : W.heap[w.heap.size]? = some (.stringIter S (m + 1)) := by rw [hW]; exact Lib.iterAt_heap _ _ _ _ _ hit
      have hBW : Below w.heap.size w W := by rw [hW]; exact Lib.below_iterAt hB (Nat.le_refl _) _ _
      have hipW : W.iterPos w.heap.size = m + 1 := by unfold World.iterPos; rw [hitW]
      have HipW := Lib.hid hipW
      clear hW hit hipW hd hxe
      go_wp2_with fail
      go_roundw
      case rel => exact ⟨m + 1, by omega, hitW, hBW⟩
      case measure => rw [Hip.out, HipW.out]; omega
    · obtain rfl : m = n := by omega
      have hnx := fun ty => Lib.run_next_end_at (P := Tryz.prog) wr w.heap.size S m ty hit (by rw [Hsz.out]; exact hmn)
      go_wp2_with fail
      go_ret
      exact ⟨rfl, hB⟩
end Go.Proofs.YtcpkkaimingnlaaGreatDoor
