/-
  Texts of this seat, joined: Lir, Lix, Ldh, Lis, Lia, Lpa. Each says what it proves, ahead of itself.
-/
import Derived.Test.YtcpkkaimingnlaaGreatDoorMB
import Derived.Deep.QuietTactic
import Derived.BigQuiet
import Derived.Laws.Runes
import Derived.WalkMore
import Derived.Lib.IndexAny
import Derived.Deep.DeepCutAuto
set_option linter.unusedVariables false
set_option linter.unusedSimpArgs false
section
namespace Go.Proofs.YtcpkkaimingnlaaGreatDoor
open Go.RowKit

set_option maxHeartbeats 4000000 in
set_option maxRecDepth 100000 in
theorem ir_none (S R S' : ByteArray) (r : Int) (k n : Nat) (a b : Int) (h : 128 ≤ r) (h2 : r ≠ 65533) (hv : Lib.validRune r = true) (hR : Utf8.encode r = R) (hRs : R.size = k + 1) (hk : 1 ≤ k) (hS : S.size = n) (hk5 : k < n) (hk3 : k ≤ 3)
    (hi1 : ∀ w, (Instr.index 9 (.string S) (.int .i64 (k : Int))).run Tryz.prog w = .ok (.int .u8 a) w)
    (hi2 : ∀ w, (Instr.index 9 (.string R) (.int .i64 (k : Int))).run Tryz.prog w = .ok (.int .u8 b) w)
    (hsl : ∀ w, (Instr.slice 9 (.string S) (some (.int .i64 ((k : Int) + 1))) none none).run Tryz.prog w = .ok (.string S') w)
    (hab : (a != b) = true) (hx : Lib.indexByte S'.data.toList b.toNat.toUInt8 = -1) (w : World) :
    Calls Tryz.prog 79 #[.string S, .int .i32 r] w fun e w' => e = .returned (.int .i64 (-1)) ∧ ∃ q, w' = w.drewN q := by
  have t1 : decide (0 ≤ r) = true := by rw [decide_eq_true_eq]; omega
  have t2 : decide (r < 128) = false := by rw [decide_eq_false_iff_not]; omega
  have t3 : (r == 65533) = false := by simpa using h2
  have H37 := Lib.hid (Tryz.utf8_ValidRune r w)
  have H48 := Lib.hid (fun w => Tryz.strings_IndexByte S' b w)
  rw [hv] at H37
  rw [hx] at H48
  have hkz : ((k + 1 : Nat) : Int) - 1 = (k : Int) := by omega
  have hRz : (R.size : Int) = (k : Int) + 1 := by omega
  have hSz : (S.size : Int) = (n : Int) := by omega
  have hcv : ∀ w, (convert 21 9 (.int .i32 r)).run Tryz.prog w = .ok (.string R) w := by
    intro w; rw [run_convert_int_string w 21 9 .i32 r (by kernel_rfl) Tryz.underlying9, hR]
  clear hv h2 h hx hRs hS hR
  go_enter Tryz.func79, Tryz.ntmps79
  go_wp2_with fail
  refine H37.out.mono ?_
  rintro e w' ⟨rfl, rfl⟩
  go_wp2_with fail
  go_step3
  go_wp2_with fail
  go_loopw [9] (fun i wr => i = .int .i64 (k : Int) ∧ wr = w') (fun _ _ => 1)
  case atStart => exact ⟨rfl, rfl⟩
  case round =>
    obtain ⟨rfl, rfl⟩ := hrel
    have hk1 : (k : Int) < (n : Int) := by omega
    go_wp2_with fail
    go_step3
    go_wp2_with fail
    go_quiet (fail)
    go_wp2_with fail
    have hwr : IntKind.i64.wrap ((k : Int) + 1) = (k : Int) + 1 := by rw [IntKind.wrap_i64]; omega
    go_quiet ((go_at_call 64; exact quiet_add_left ((H48.out _).mono fun _ _ h => ⟨h.1, h.2.symm⟩)))
    go_wp2_with fail
    rw [Exit.noGoto_ret]
    simp +zetaDelta only [Exit.inBlock, Exit.noGoto, Exit.then]
    go_ret
    exact ⟨rfl, _, rfl⟩

set_option maxHeartbeats 4000000 in
set_option maxRecDepth 100000 in
theorem ir_shut (S R : ByteArray) (r : Int) (k n : Nat) (h : 128 ≤ r) (h2 : r ≠ 65533) (hv : Lib.validRune r = true) (hR : Utf8.encode r = R) (hRs : R.size = k + 1) (hk : 1 ≤ k) (hS : S.size = n) (hk5 : n ≤ k) (hk3 : k ≤ 3) (w : World) :
    Calls Tryz.prog 79 #[.string S, .int .i32 r] w fun e w' => e = .returned (.int .i64 (-1)) ∧ ∃ q, w' = w.drewN q := by
  have t1 : decide (0 ≤ r) = true := by rw [decide_eq_true_eq]; omega
  have t2 : decide (r < 128) = false := by rw [decide_eq_false_iff_not]; omega
  have t3 : (r == 65533) = false := by simpa using h2
  have H37 := Lib.hid (Tryz.utf8_ValidRune r w)
  rw [hv] at H37
  have hkz : ((k + 1 : Nat) : Int) - 1 = (k : Int) := by omega
  have hRz : (R.size : Int) = (k : Int) + 1 := by omega
  have hSz : (S.size : Int) = (n : Int) := by omega
  have hcv : ∀ w, (convert 21 9 (.int .i32 r)).run Tryz.prog w = .ok (.string R) w := by
    intro w; rw [run_convert_int_string w 21 9 .i32 r (by kernel_rfl) Tryz.underlying9, hR]
  clear hv h2 h hRs hS hR
  go_enter Tryz.func79, Tryz.ntmps79
  go_wp2_with fail
  refine H37.out.mono ?_
  rintro e w' ⟨rfl, rfl⟩
  go_wp2_with fail
  go_step3
  go_wp2_with fail
  go_loopw [9] (fun i wr => i = .int .i64 (k : Int) ∧ wr = w') (fun _ _ => 1)
  case atStart => exact ⟨rfl, rfl⟩
  case round =>
    obtain ⟨rfl, rfl⟩ := hrel
    have hk1 : ¬ (k : Int) < (n : Int) := by omega
    go_wp2_with fail
    go_ret
    exact ⟨rfl, 0, rfl⟩

set_option maxHeartbeats 4000000 in
set_option maxRecDepth 100000 in
theorem ir_err (l : List UInt8) (hl : ∀ x ∈ l, x.toNat < 128) (w : World) :
    Calls Tryz.prog 79 #[.string ⟨l.toArray⟩, .int .i32 65533] w fun e w' => e = .returned (.int .i64 (-1)) ∧ Below w.heap.size w w' := by
  have hsz : (⟨l.toArray⟩ : ByteArray).size = l.length := by simp [ByteArray.size]
  have hdec : ∀ i, i < l.length → Utf8.decode ⟨l.toArray⟩ i = ((l.getD i 0).toNat, 1) ∧ (l.getD i 0).toNat < 128 := by
    intro i hi
    have hx : (l.getD i 0).toNat < 128 := hl _ (by simp [hi])
    refine ⟨?_, hx⟩
    have hi' : i < (⟨l.toArray⟩ : ByteArray).size := by rw [hsz]; exact hi
    have e : (⟨l.toArray⟩ : ByteArray)[i]'hi' = l.getD i 0 := by
      show l.toArray[i]'_ = _
      simp [hi]
    rw [← e] at hx ⊢
    exact decode_ascii _ _ hi' hx
  obtain ⟨S, hS⟩ : ∃ S, S = (⟨l.toArray⟩ : ByteArray) := ⟨_, rfl⟩
  rw [← hS] at hdec hsz ⊢
  clear hS hl
  obtain ⟨n, hn⟩ : ∃ n, n = l.length := ⟨_, rfl⟩
  rw [← hn] at hsz hdec
  have Hsz := Lib.hid hsz; have Hdec := Lib.hid hdec; clear hn hsz hdec
  go_enter Tryz.func79, Tryz.ntmps79
  go_wp2_with fail
  go_loopw [] (fun wr => ∃ m : Nat, m ≤ n ∧ wr.heap[w.heap.size]? = some (.stringIter S m) ∧ Below w.heap.size w wr)
    (fun wr => n - wr.iterPos w.heap.size)
  case atStart => exact ⟨0, by omega, World.iter_heap w S 0, (Below.refl _ w).alloc (Nat.le_refl _) _⟩
  case round =>
    obtain ⟨m, hm, hit, hB⟩ := hrel
    have hip : wr.iterPos w.heap.size = m := by unfold World.iterPos; rw [hit]
    have Hip := Lib.hid hip
    clear hip
    by_cases hmn : m < n
    · obtain ⟨hd, hx⟩ := Hdec.out m hmn
      obtain ⟨x, hxe⟩ : ∃ x, x = (l.getD m 0).toNat := ⟨_, rfl⟩
      rw [← hxe] at hd hx
      have hnx := fun ty => Lib.run_next_any_at (P := Tryz.prog) wr w.heap.size S m ty hit (by rw [Hsz.out]; exact hmn)
      rw [hd] at hnx
      dsimp only at hnx
      have tx : ((x : Int) == 65533) = false := by simp; omega
      obtain ⟨W, hW⟩ : ∃ W, W = wr.iterAt w.heap.size S (m + 1) := ⟨_, rfl⟩
      rw [← hW] at hnx
      have hitW : W.heap[w.heap.size]? = some (.stringIter S (m + 1)) := by rw [hW]; exact Lib.iterAt_heap _ _ _ _ _ hit
      have hBW : Below w.heap.size w W := by rw [hW]; exact Lib.below_iterAt hB (Nat.le_refl _) _ _
      have hipW : W.iterPos w.heap.size = m + 1 := by unfold World.iterPos; rw [hitW]
      have HipW := Lib.hid hipW
      clear hW hit hipW hd hxe
      go_wp2_with fail
      go_roundw
      case rel => exact ⟨m + 1, by omega, hitW, hBW⟩
      case measure => rw [Hip.out, HipW.out]; omega
    · obtain rfl : m = n := by omega
      have hnx := fun ty => Lib.run_next_end_at (P := Tryz.prog) wr w.heap.size S m ty hit (by rw [Hsz.out]; exact hmn)
      go_wp2_with fail
      go_ret
      exact ⟨rfl, hB⟩
end Go.Proofs.YtcpkkaimingnlaaGreatDoor
end
section
namespace Go.Proofs.YtcpkkaimingnlaaGreatDoor
open Go.RowKit

/-- A code point's bytes. -/
def oneL (p : Nat) : List UInt8 :=
  if p < 128 then [UInt8.ofNat p]
  else if p < 2048 then [UInt8.ofNat (192 + p / 64), UInt8.ofNat (128 + p % 64)]
  else if p < 65536 then [UInt8.ofNat (224 + p / 4096), UInt8.ofNat (128 + p / 64 % 64), UInt8.ofNat (128 + p % 64)]
  else [UInt8.ofNat (240 + p / 262144), UInt8.ofNat (128 + p / 4096 % 64), UInt8.ofNat (128 + p / 64 % 64), UInt8.ofNat (128 + p % 64)]
theorem tn (n : Nat) (h : n < 256) : (UInt8.ofNat n).toNat = n := by rw [UInt8.toNat_ofNat', Nat.mod_eq_of_lt (by simpa using h)]
theorem valid_two (x : Nat) : Lib.validRune (x : Int) = Utf8.valid (x : Int) := by
  unfold Lib.validRune Utf8.valid
  rw [Bool.eq_iff_iff]
  simp
  omega
theorem enc_utf8 (p : Nat) (hv : Utf8.valid (p : Int) = true) : Utf8.encode (p : Int) = ⟨(oneL p).toArray⟩ := by
  unfold Utf8.encode oneL
  simp only [hv, if_true, Int.toNat_natCast]
  by_cases h1 : p < 128
  · simp [h1]
  · by_cases h2 : p < 2048
    · simp [h1, h2]
    · by_cases h3 : p < 65536
      · simp [h1, h2, h3]
      · simp [h1, h2, h3]
theorem one_last (x : Nat) (h : 128 ≤ x) (hx : x ≤ 1114111) : ∃ k, 1 ≤ k ∧ k < 4 ∧ (oneL x).length = k + 1 ∧ 128 ≤ ((oneL x).getD k 0).toNat := by
  unfold oneL
  rw [if_neg (by omega)]
  by_cases h2 : x < 2048
  · rw [if_pos h2]
    exact ⟨1, by omega, by omega, rfl, by show 128 ≤ (UInt8.ofNat (128 + x % 64)).toNat; rw [tn _ (by omega)]; omega⟩
  · rw [if_neg h2]
    by_cases h3 : x < 65536
    · rw [if_pos h3]
      exact ⟨2, by omega, by omega, rfl, by show 128 ≤ (UInt8.ofNat (128 + x % 64)).toNat; rw [tn _ (by omega)]; omega⟩
    · rw [if_neg h3]
      exact ⟨3, by omega, by omega, rfl, by show 128 ≤ (UInt8.ofNat (128 + x % 64)).toNat; rw [tn _ (by omega)]; omega⟩
theorem index_none (l : List UInt8) (c : UInt8) (hl : ∀ x ∈ l, x.toNat < 128) (hc : 128 ≤ c.toNat) : Lib.indexByte l c = -1 := by
  have h1 := Lib.contains_iff_indexByte l c
  have h2 : l.contains c = false := by
    cases h : l.contains c with
    | false => rfl
    | true =>
      have := hl c (by simpa using h)
      omega
  rw [h2] at h1
  have h3 := of_decide_eq_false h1.symm
  have h4 := Lib.indexByte_ge l c
  omega
theorem drew_below (w : World) (q : Nat) : Below w.heap.size w (w.drewN q) := by
  have : ∀ q, Below w.heap.size w (w.drewN q) := by
    intro q
    induction q with
    | zero => exact Below.refl _ _
    | succ q ih => exact ih.drew
  exact this q
/-- IndexRune of a decoded code point beyond ASCII, in ASCII: -1. -/
theorem ir_any (l : Bs) (hl : ∀ x ∈ l, x.toNat < 128) (x : Nat) (h : 128 ≤ x) (hx : x ≤ 1114111) (hv : Utf8.valid (x : Int) = true) (w : World) :
    Calls Tryz.prog 79 #[.string (bs l), .int .i32 ((x : Nat) : Int)] w fun e w' => e = .returned (.int .i64 (-1)) ∧ Below w.heap.size w w' := by
  by_cases h1 : x = 65533
  · subst h1
    exact ir_err l hl w
  · have h1z : (x : Int) ≠ 65533 := by omega
    have hvr : Lib.validRune (x : Int) = true := by rw [valid_two]; exact hv
    obtain ⟨k, hk1, hk4, hle, hb⟩ := one_last x h hx
    have hRs : (⟨(oneL x).toArray⟩ : ByteArray).size = k + 1 := by simp [ByteArray.size, hle]
    rcases Nat.lt_or_ge k l.length with hk | hk
    · have ha : (l.getD k 0).toNat < 128 := hl _ (by simp [hk])
      have hbs := fun W => str_byte (oneL x) k (by omega) W
      have has := fun W => str_byte l k hk W
      have hss := fun W => str_from l (k + 1) (by omega) W
      refine (ir_none (bs l) ⟨(oneL x).toArray⟩ (bs (l.drop (k + 1))) x k l.length _ _ (by omega) h1z hvr (enc_utf8 x hv) hRs hk1 (bs_size l) hk (by omega) has hbs (fun W => hss W) ?_ ?_ w).mono
        fun e w' ⟨he, q, hq⟩ => ⟨he, by rw [hq]; exact drew_below _ _⟩
      · rw [bne_iff_ne]; omega
      · refine index_none _ _ (fun y hy => hl y (List.mem_of_mem_drop hy)) ?_
        have : ((((oneL x).getD k 0).toNat : Nat) : Int).toNat.toUInt8 = (oneL x).getD k 0 := by simp
        rw [this]; exact hb
    · exact (ir_shut (bs l) ⟨(oneL x).toArray⟩ x k l.length (by omega) h1z hvr (enc_utf8 x hv) hRs hk1 (bs_size l) hk (by omega) w).mono
        fun e w' ⟨he, q, hq⟩ => ⟨he, by rw [hq]; exact drew_below _ _⟩
end Go.Proofs.YtcpkkaimingnlaaGreatDoor
end
section
namespace Go.Proofs.YtcpkkaimingnlaaGreatDoor
open Go.RowKit

theorem get_at (l : List UInt8) (i : Nat) (h : i < l.length) : ((bs l).get! i) = l.getD i 0 := by
  show l.toArray[i]! = _
  simp [h]
theorem valid_low (c : Nat) (h : c < 55296) : Utf8.valid (c : Int) = true := by unfold Utf8.valid; simp; omega
theorem valid_top (c : Nat) (h : Utf8.valid (c : Int) = true) : c ≤ 1114111 := by
  rcases Nat.lt_or_ge 1114111 c with hc | hc
  · have : Utf8.valid (c : Int) = false := by unfold Utf8.valid; simp; omega
    rw [this] at h; cases h
  · exact hc
theorem valid_err : Utf8.valid ((Utf8.runeError : Nat) : Int) = true := by decide
theorem dec_high (l : Bs) (i : Nat) (h : i < l.length) (hx : 128 ≤ (l.getD i 0).toNat) :
    ∃ r k, Utf8.decode (bs l) i = (r, k) ∧ 128 ≤ r ∧ r ≤ 1114111 ∧ Utf8.valid (r : Int) = true ∧ 1 ≤ k ∧ i + k ≤ l.length ∧ ∀ j, j < k → 128 ≤ (l.getD (i + j) 0).toNat := by
  have hs : (bs l).size = l.length := bs_size l
  have g0 := get_at l i h
  have bad : ∃ r k, (Utf8.runeError, 1) = (r, k) ∧ 128 ≤ r ∧ r ≤ 1114111 ∧ Utf8.valid (r : Int) = true ∧ 1 ≤ k ∧ i + k ≤ l.length ∧ ∀ j, j < k → 128 ≤ (l.getD (i + j) 0).toNat :=
    ⟨Utf8.runeError, 1, rfl, by decide, by decide, valid_err, by omega, by omega, fun j hj => by
      obtain rfl : j = 0 := by omega
      exact hx⟩
  unfold Utf8.decode
  simp only [Nat.add_zero, g0]
  rw [if_neg (by omega)]
  split
  · rename_i hc
    simp only [Bool.and_eq_true, beq_iff_eq, decide_eq_true_eq, hs] at hc
    obtain ⟨h6, hl1, hc1⟩ := hc
    rw [get_at l (i + 1) hl1] at hc1 ⊢
    split
    · rename_i hr
      refine ⟨_, 2, rfl, hr, by omega, valid_low _ (by omega), by omega, by omega, fun j hj => ?_⟩
      rcases (show j = 0 ∨ j = 1 by omega) with rfl | rfl
      · exact hx
      · omega
    · exact bad
  · split
    · rename_i hc
      simp only [Bool.and_eq_true, beq_iff_eq, decide_eq_true_eq, hs] at hc
      obtain ⟨⟨h6, hl1, hc1⟩, hl2, hc2⟩ := hc
      rw [get_at l (i + 1) hl1] at hc1 ⊢
      rw [get_at l (i + 2) hl2] at hc2 ⊢
      split
      · rename_i hr
        rw [Bool.and_eq_true, decide_eq_true_eq] at hr
        refine ⟨_, 3, rfl, by omega, by omega, hr.2, by omega, by omega, fun j hj => ?_⟩
        rcases (show j = 0 ∨ j = 1 ∨ j = 2 by omega) with rfl | rfl | rfl
        · exact hx
        · omega
        · omega
      · exact bad
    · split
      · rename_i hc
        simp only [Bool.and_eq_true, beq_iff_eq, decide_eq_true_eq, hs] at hc
        obtain ⟨⟨⟨h6, hl1, hc1⟩, hl2, hc2⟩, hl3, hc3⟩ := hc
        rw [get_at l (i + 1) hl1] at hc1 ⊢
        rw [get_at l (i + 2) hl2] at hc2 ⊢
        rw [get_at l (i + 3) hl3] at hc3 ⊢
        split
        · rename_i hr
          rw [Bool.and_eq_true, decide_eq_true_eq] at hr
          refine ⟨_, 4, rfl, by omega, valid_top _ hr.2, hr.2, by omega, by omega, fun j hj => ?_⟩
          rcases (show j = 0 ∨ j = 1 ∨ j = 2 ∨ j = 3 by omega) with rfl | rfl | rfl | rfl
          · exact hx
          · omega
          · omega
          · omega
        · exact bad
      · exact bad
end Go.Proofs.YtcpkkaimingnlaaGreatDoor
end
section
namespace Go.Proofs.YtcpkkaimingnlaaGreatDoor
open Go.RowKit

theorem noAny_skip {l cs : Bs} {i k : Nat} (h : Lib.NoAny l cs i) (hcs : ∀ x ∈ cs, x.toNat < 128) (hk : ∀ j, j < k → 128 ≤ (l.getD (i + j) 0).toNat) : Lib.NoAny l cs (i + k) := by
  intro j b hj hb
  rcases Nat.lt_or_ge j i with hji | hji
  · exact h j b hji hb
  · have := hk (j - i) (by omega)
    rw [show i + (j - i) = j by omega] at this
    have e : l.getD j 0 = b := by simp [hb]
    rw [e] at this
    cases hc : cs.contains b with
    | false => rfl
    | true =>
      have := hcs b (by simpa using hc)
      omega
set_option maxHeartbeats 8000000 in
set_option maxRecDepth 1000000 in
theorem ixany_short (l cs : Bs) (hcs : ∀ x ∈ cs, x.toNat < 128) (h2 : 2 ≤ cs.length) (h8 : l.length ≤ 8) (w : World) :
    Calls Tryz.prog 40 #[.string (bs l), .string (bs cs)] w fun e w' => e = .returned (.int .i64 (Lib.indexAny l cs)) ∧ Below w.heap.size w w' := by
  have hemp : (bs cs).toList.isEmpty = false := by
    rw [bs_toList]
    cases cs with
    | nil => simp at h2
    | cons _ _ => rfl
  have hsz := bs_size l
  have hcz := bs_size cs
  have hn1 : (((bs cs).size : Int) == 1) = false := beq_eq_false_iff_ne.2 (by omega)
  have h8z : decide ((8 : Int) < ((bs l).size : Int)) = false := decide_eq_false (by omega)
  have hdec := fun i (hi : i < l.length) (hx : (l.getD i 0).toNat < 128) => (show Utf8.decode (bs l) i = ((l.getD i 0).toNat, 1) by
    have hi' : i < (bs l).size := by rw [hsz]; exact hi
    have e : (bs l)[i]'hi' = l.getD i 0 := by
      show l.toArray[i]'_ = _
      first | (simp [hi]; done) | (simp [hi]; rfl)
    rw [← e] at hx ⊢
    exact decode_ascii _ _ hi' hx)
  have hhi := dec_high l
  have hidx : ∀ x : UInt8, ((x.toNat : Int)).toNat.toUInt8 = x := by intro x; simp
  have hir := fun x h1 h2 h3 W => ir_any cs hcs x h1 h2 h3 W
  have hia := fun (r : Int) (W : World) h0 h1 => Tryz.strings_IndexRune_ascii (bs cs) r W h0 h1
  have hbl : (bs cs).data.toList = cs := by simp [bs]
  have Hdec := Lib.hid hdec; have Hhi := Lib.hid hhi; have Hidx := Lib.hid hidx; have Hir := Lib.hid hir; have Hia := Lib.hid hia; have Hcs := Lib.hid hcs; have Hbl := Lib.hid hbl
  clear hdec hhi hidx hir hia hcs hbl
  obtain ⟨S, hS⟩ : ∃ S, S = bs l := ⟨_, rfl⟩
  obtain ⟨C, hC⟩ : ∃ C, C = bs cs := ⟨_, rfl⟩
  rw [← hS] at hsz h8z Hdec Hhi ⊢
  rw [← hC] at hcz hn1 hemp Hir Hia Hbl ⊢
  obtain ⟨n, hn⟩ : ∃ n, n = l.length := ⟨_, rfl⟩
  rw [← hn] at hsz Hdec Hhi h8
  have Hsz := Lib.hid hsz; have Hn := Lib.hid hn
  clear hS hC hsz hcz hn h2
  go_enter Tryz.func40, Tryz.ntmps40
  go_wp2_with (go_at_call 80; refine (Tryz.strings_shouldUseASCIISet _ _).mono ?_; rintro e w' ⟨rfl, hw⟩; rw [hw, h8z])
  go_loopw [9, 10] (fun _ _ wr => ∃ m : Nat, m ≤ n ∧ wr.heap[w.heap.size]? = some (.stringIter S m) ∧ Below w.heap.size w wr ∧ Lib.NoAny l cs m)
    (fun _ _ wr => n - wr.iterPos w.heap.size)
  case atStart => exact ⟨0, by omega, World.iter_heap w S 0, (Below.refl _ w).alloc (Nat.le_refl _) _, Lib.NoAny.zero _ _⟩
  case round =>
    obtain ⟨m, hm, hit, hB, hno⟩ := hrel
    have hip : wr.iterPos w.heap.size = m := by unfold World.iterPos; rw [hit]
    have Hip := Lib.hid hip
    have HN := Lib.hid hno
    clear hip hno
    by_cases hmn : m < n
    · have hnx := fun ty => Lib.run_next_any_at (P := Tryz.prog) wr w.heap.size S m ty hit (by rw [Hsz.out]; exact hmn)
      by_cases hx : (l.getD m 0).toNat < 128
      · have hd := Hdec.out m hmn hx
        obtain ⟨b, hb⟩ : ∃ b, b = l.getD m 0 := ⟨_, rfl⟩
        rw [← hb] at hd hx
        rw [hd] at hnx
        dsimp only at hnx
        obtain ⟨W, hW⟩ : ∃ W, W = wr.iterAt w.heap.size S (m + 1) := ⟨_, rfl⟩
        rw [← hW] at hnx
        have hitW : W.heap[w.heap.size]? = some (.stringIter S (m + 1)) := by rw [hW]; exact Lib.iterAt_heap _ _ _ _ _ hit
        have hBW : Below w.heap.size w W := by rw [hW]; exact Lib.below_iterAt hB (Nat.le_refl _) _ _
        have hipW : W.iterPos w.heap.size = m + 1 := by unfold World.iterPos; rw [hitW]
        have HipW := Lib.hid hipW
        have hbl : l[m]? = some b := by
          rw [hb]
          have : m < l.length := by rw [← Hn.out]; exact hmn
          simp [this]
        have HBl := Lib.hid hbl
        clear hW hit hipW hd hbl hb
        have hcon := Lib.contains_iff_indexByte cs b
        cases hin : cs.contains b
        · rw [hin] at hcon
          have hlt : ¬ ((0 : Int) ≤ Lib.indexByte cs b) := of_decide_eq_false hcon.symm
          have HIN := Lib.hid hin
          clear hcon hin
          go_wp2_with (go_at_call 79; refine (Hia.out _ _ (by omega) (by omega)).mono ?_; rintro e w' ⟨rfl, hw⟩; rw [hw, Hbl.out, Hidx.out])
          go_roundw
          case rel => exact ⟨m + 1, by omega, hitW, hBW, HN.out.succ HBl.out HIN.out⟩
          case measure => rw [Hip.out, HipW.out]; omega
        · rw [hin] at hcon
          have hge : (0 : Int) ≤ Lib.indexByte cs b := of_decide_eq_true hcon.symm
          have HIN := Lib.hid hin
          clear hcon hin
          go_wp2_with (go_at_call 79; refine (Hia.out _ _ (by omega) (by omega)).mono ?_; rintro e w' ⟨rfl, hw⟩; rw [hw, Hbl.out, Hidx.out])
          go_ret
          exact ⟨by rw [Lib.indexAny_hit HN.out HBl.out HIN.out]; rfl, hBW⟩
      · obtain ⟨r, k, hd, h1, h2, hv, hk1, hk2, hk3⟩ := Hhi.out m hmn (by omega)
        have HN2 := Lib.hid (noAny_skip HN.out Hcs.out hk3)
        clear hk3 hx
        rw [hd] at hnx
        dsimp only at hnx
        obtain ⟨W, hW⟩ : ∃ W, W = wr.iterAt w.heap.size S (m + k) := ⟨_, rfl⟩
        rw [← hW] at hnx
        have hitW : W.heap[w.heap.size]? = some (.stringIter S (m + k)) := by rw [hW]; exact Lib.iterAt_heap _ _ _ _ _ hit
        have hBW : Below w.heap.size w W := by rw [hW]; exact Lib.below_iterAt hB (Nat.le_refl _) _ _
        have hlt : w.heap.size < W.heap.size := by
          rcases Nat.lt_or_ge w.heap.size W.heap.size with h | h
          · exact h
          · rw [Array.getElem?_eq_none h] at hitW; cases hitW
        have hW2 : ∀ W2, Below W.heap.size W W2 → W2.heap[w.heap.size]? = some (.stringIter S (m + k)) ∧ Below w.heap.size w W2 ∧ W2.iterPos w.heap.size = m + k := by
          intro W2 hb
          have e : W2.heap[w.heap.size]? = some (.stringIter S (m + k)) := (hb.block _ hlt).trans hitW
          exact ⟨e, hBW.trans (hb.mono (by omega)), by unfold World.iterPos; rw [e]⟩
        have HW2 := Lib.hid hW2
        have H79 := Lib.hid (Hir.out r h1 h2 hv W)
        clear hW hit hd hW2 hitW hBW hlt hv
        go_wp2_with (go_at_call 79; refine H79.out.mono ?_; rintro e w' ⟨rfl, hw⟩; have HX := Lib.hid (HW2.out w' hw); clear hw)
        go_roundw
        case rel => exact ⟨m + k, by omega, HX.out.1, HX.out.2.1, HN2.out⟩
        case measure => rw [Hip.out, HX.out.2.2]; omega
    · obtain rfl : m = n := by omega
      have hnx := fun ty => Lib.run_next_end_at (P := Tryz.prog) wr w.heap.size S m ty hit (by rw [Hsz.out]; exact hmn)
      go_wp2_with fail
      go_ret
      exact ⟨by rw [Lib.indexAny_none (by rw [← Hn.out]; exact HN.out)]; rfl, hB⟩
end Go.Proofs.YtcpkkaimingnlaaGreatDoor
end
section
namespace Go.Proofs.YtcpkkaimingnlaaGreatDoor
open Go.RowKit

theorem ixany_any (l cs : Bs) (hcs : ∀ x ∈ cs, x.toNat < 128) (h2 : 2 ≤ cs.length) (h9 : cs.length ≤ 100) (hl : l.length ≤ 4000000) (w : World) :
    Calls Tryz.prog 40 #[.string (bs l), .string (bs cs)] w fun e w' => e = .returned (.int .i64 (Lib.indexAny l cs)) ∧ Below w.heap.size w w' := by
  rcases Nat.lt_or_ge 8 l.length with h8 | h8
  · have h116 : (Tryz.prog.info? 111).map (fun i => (i.zero, i.size)) = some (some (.agg (Array.replicate 256 (.bool false))), 256) := by kernel_rfl
    have e1 : (bs l).data.toList = l := by simp [bs]
    have e2 : (bs cs).data.toList = cs := by simp [bs]
    have hz1 := bs_size l
    have hz2 := bs_size cs
    have := Tryz.strings_IndexAny_long (zero_of_info h116).1 (bs l) (bs cs) w (by omega) (by omega) (by omega) (by omega) (by
      intro j b hb
      rw [e2] at hb
      exact hcs b (List.mem_of_getElem? hb))
    rw [e1, e2] at this
    refine this.mono ?_
    rintro e w' ⟨he, hw⟩
    refine ⟨he, ?_⟩
    rw [hw]
    exact ((Below.refl _ _).alloc (Nat.le_refl _) _).alloc (by simp) _
  · exact ixany_short l cs hcs h2 h8 w
end Go.Proofs.YtcpkkaimingnlaaGreatDoor
end
section
namespace Go.Proofs.YtcpkkaimingnlaaGreatDoor
open Go.RowKit

theorem cut_any (s sep : Bs) (hl : s.length ≤ 4000000) (w : World) (hT : Tabs w) :
    Calls Tryz.prog 38 #[.string (bs s), .string (bs sep)] w fun e w' => e = .returned (.tuple #[.string (bs (Lib.cut s sep).1), .string (bs (Lib.cut s sep).2.1), .bool (Lib.cut s sep).2.2]) ∧ Below w.heap.size w w' := by
  obtain ⟨m, hm⟩ := hT.len
  refine (Tryz.strings_Cut (bs s) (bs sep) m w (by rw [bs_size]; omega) hm).mono ?_
  rintro e w' ⟨rfl, n, rfl⟩
  have e1 : (bs s).data.toList = s := by simp [bs]
  have e2 : (bs sep).data.toList = sep := by simp [bs]
  rw [e1, e2]
  exact ⟨rfl, below_drewN (Below.refl _ _) n⟩
theorem lower_text (s : Bs) (hl : s.length ≤ 4000000) (w : World) (hT : Tabs w) :
    Calls Tryz.prog 39 #[.string (bs s)] w fun e w' => e = .returned (.string (bs (Lib.toLowerD s))) ∧ Below w.heap.size w w' := by
  refine (Tryz.strings_ToLower_any (bs s) w (by rw [bs_size]; omega) hT.case hT.utf).mono ?_
  rintro e w' ⟨rfl, h⟩
  have e1 : (bs s).data.toList = s := by simp [bs]
  rw [e1]
  exact ⟨rfl, h⟩
theorem contains_any (s : Bs) (c : UInt8) (w : World) :
    Calls Tryz.prog 46 #[.string (bs s), .string (bs [c])] w fun e w' => e = .returned (.bool (decide (0 ≤ Lib.index s [c]))) ∧ w' = w := by
  refine (Tryz.strings_Contains_one (bs s) c w).mono ?_
  rintro e w' ⟨rfl, rfl⟩
  have e1 : (bs s).data.toList = s := by simp [bs]
  rw [e1, Lib.index_one]
  exact ⟨rfl, rfl⟩
/-- The two blocks of Parse: the answer's, the link's. -/
structure PW (w W : World) (c2 c : List Value) : Prop where
  b2 : Blk W w.heap.size 24 c2
  b : Blk W (w.heap.size + 1) 24 c
  bel : Below w.heap.size w W
theorem PW.call {w W W1 : World} {c2 c : List Value} (h : PW w W c2 c) (hb : Below W.heap.size W W1) : PW w W1 c2 c :=
  ⟨blk_below h.b2 hb (blk_lt h.b2), blk_below h.b hb (blk_lt h.b), h.bel.trans (hb.mono h.bel.size)⟩
theorem PW.set {w W W1 : World} {c2 c c' : List Value} (h : PW w W c2 c) (hb : Blk W1 (w.heap.size + 1) 24 c') (ht : Turned W W1 (w.heap.size + 1)) : PW w W1 c2 c' :=
  ⟨ht.blk h.b2 (by omega), hb, ht.below _ _ (by omega) h.bel⟩
theorem PW.quiet {w W : World} {c2 c : List Value} (h : PW w W c2 c) (n : Nat) : PW w (W.drewN n) c2 c :=
  ⟨blk_drewN h.b2 n, blk_drewN h.b n, below_drewN h.bel n⟩
theorem pw_start (w : World) (A B : List Value) : PW w ((w.alloc (.cells A.toArray 24)).alloc (.cells B.toArray 24)) A B := by
  have h2 : Blk (w.alloc (.cells A.toArray 24)) w.heap.size 24 A := by have := blk_new w 24 A.toArray; simpa using this
  refine ⟨blk_alloc h2 _, ?_, ((Below.refl _ w).alloc (Nat.le_refl _) _).alloc (by simp) _⟩
  have := blk_new (w.alloc (.cells A.toArray 24)) 24 B.toArray
  simpa using this
def zcs : List Value := [.string ⟨#[]⟩, .string ⟨#[]⟩, .int .i64 0, .string ⟨#[]⟩, .string ⟨#[]⟩, .string ⟨#[]⟩, .bool false, .bool false]
theorem cut_len (s sep : Bs) : (Lib.cut s sep).1.length ≤ s.length ∧ (Lib.cut s sep).2.1.length ≤ s.length := by
  unfold Lib.cut
  split
  · exact ⟨by dsimp only; rw [List.length_take]; omega, by dsimp only; rw [List.length_drop]; omega⟩
  · exact ⟨Nat.le_refl _, Nat.zero_le _⟩
set_option maxHeartbeats 8000000 in
set_option maxRecDepth 100000 in
theorem parse_any (s : Bs) (w : World) (hT : Tabs w) (hmax : s.length ≤ 9223372036854775807) :
    Calls Tryz.prog 14 #[.string (bs s)] w fun e w' => e = .returned (.tuple #[lnk ((parseP s).getD Link.zero), .int .i64 (if (parseP s).isSome = true then 0 else 40)]) ∧ Below w.heap.size w w' := by
  have hz : (bs s).size = s.length := bs_size s
  obtain ⟨R, hR⟩ : ∃ R, R = parseP s := ⟨_, rfl⟩
  rw [← hR]
  obtain ⟨E, hE⟩ : ∃ E : Int, E = (if R.isSome = true then 0 else 40) := ⟨_, rfl⟩
  rw [← hE]
  have HR := Lib.hid hR; have HE := Lib.hid hE
  clear hR hE
  have HP0 := Lib.hid (pw_start w zcs zcs)
  have HT := Lib.hid hT
  clear hT
  by_cases hlen : s.length ≤ 2048
  · have hcut := Lib.hid (fun W (h : Below w.heap.size w W) => cut_any s [58, 47, 47] (by omega) W (HT.out.below h))
    have hnl : decide ((s.length : Int) ≤ 2048) = true := decide_eq_true (by omega)
    have hcl := cut_len s [58, 47, 47]
    have hR : R = if (Lib.cut s [58, 47, 47]).2.2 = false ∨ isHttp (Lib.toLowerD (Lib.cut s [58, 47, 47]).1) = false then none else restP (Lib.cut s [58, 47, 47]).1 (Lib.cut s [58, 47, 47]).2.1 := by
      rw [HR.out]; unfold parseP; rw [if_neg (by omega)]
    generalize Lib.cut s [58, 47, 47] = C at *
    obtain ⟨sch, rest, is⟩ := C
    dsimp only at hcl hR hcut
    have hlow := Lib.hid (fun W (h : Below w.heap.size w W) => lower_text sch (by omega) W (HT.out.below h))
    have hix := Lib.hid (fun W => ixany_any rest [47, 63, 35] (by decide) (by decide) (by decide) (by omega) W)
    obtain ⟨L, hL⟩ : ∃ L, L = Lib.toLowerD sch := ⟨_, rfl⟩
    rw [← hL] at hR hlow
    have HL := Lib.hid hL; have HR2 := Lib.hid hR
    clear hR hL
    go_enter Tryz.func14, Tryz.ntmps14
    go_upto_region 2 with fail
    obtain ⟨W0, hW0⟩ : ∃ W0, W0 = (w.alloc (.cells zcs.toArray 24)).alloc (.cells zcs.toArray 24) := ⟨_, rfl⟩
    rw [← hW0] at HP0
    rw [show (w.alloc (.cells #[.string ⟨#[]⟩, .string ⟨#[]⟩, .int .i64 0, .string ⟨#[]⟩, .string ⟨#[]⟩, .string ⟨#[]⟩, .bool false, .bool false] 24)).alloc (.cells #[.string ⟨#[]⟩, .string ⟨#[]⟩, .int .i64 0, .string ⟨#[]⟩, .string ⟨#[]⟩, .string ⟨#[]⟩, .bool false, .bool false] 24) = W0 from hW0.symm]
    clear hW0
    go_upto_region 5 with (first | (go_at_call 38; refine (hcut.out _ HP0.out.bel).mono ?_; rintro e w1 ⟨rfl, hb1⟩; have HP1 := Lib.hid (HP0.out.call hb1); clear hb1) | (refine wpList_storeC rfl 9 (.tmp 23) (.tmp 20) rfl (w.heap.size + 1) 0 _ rfl rfl rfl info9 24 _ HP1.out.b (by exact Nat.le_of_ble_eq_true rfl) ?_; intro W1 hb1 ht1; have HP2 := Lib.hid (HP1.out.set hb1 ht1); clear hb1 ht1))
    have HPr := Lib.hid HP2.out.b
    have c0 : W1.cell? ⟨w.heap.size + 1, 0, none⟩ = some (.string (bs sch)) := by rw [blk_cell HP2.out.b 0]; rfl
    go_upto_region 6 with (go_at_call 39; refine (hlow.out _ HP2.out.bel).mono ?_; rintro e w2 ⟨rfl, hb1⟩; have HP3 := Lib.hid (HP2.out.call hb1); clear hb1)
    clear c0 HP0 HP1 HP2 HPr
    obtain ⟨B, hB⟩ : ∃ B, B = (!is || (!(L == bHttp) && !(L == bHttps))) := ⟨_, rfl⟩
    have q1 : ((bs L).toList == [104, 116, 116, 112]) = (L == bHttp) := eq_bs L _
    have q2 : ((bs L).toList == [104, 116, 116, 112, 115]) = (L == bHttps) := eq_bs L _
    have HB := Lib.hid hB
    clear hB
    go_cut [36] (fun v wx => v = .bool B ∧ wx = w2)
    case first =>
      have q3 : ((bs L).toList != [104, 116, 116, 112]) = !(L == bHttp) := by rw [bne, q1]
      have q4 : ((bs L).toList != [104, 116, 116, 112, 115]) = !(L == bHttps) := by rw [bne, q2]
      cases is <;> cases hx1 : (L == bHttp) <;> cases hx2 : (L == bHttps)
      all_goals rw [hx1, hx2] at HB
      all_goals rw [hx1] at q1 q3
      all_goals rw [hx2] at q2 q4
      all_goals clear hx1 hx2
      all_goals go_wp2_with fail
      all_goals go_meet
      all_goals exact ⟨by rw [HB.out]; rfl, rfl⟩
    case rest =>
      obtain ⟨rfl, rfl⟩ := hcut
      clear q1 q2
      cases B with
      | true =>
        have hr : R = none := by
          rw [HR2.out, if_pos]
          have := HB.out
          revert this
          unfold isHttp
          cases is <;> cases (L == bHttp) <;> cases (L == bHttps) <;> simp
        have Hr := Lib.hid hr
        clear hr
        have HP := HP3
        go_upto_region 7 with fail
        go_wp2_with (refine wpList_storeL rfl (.tmp 2) (.tmp 37) rfl w.heap.size _ rfl rfl _ HP.out.b2 rfl rfl rfl ?_; intro W9 hb9 ht9)
        refine bodyPost_ret (v := _) (results_link Tryz.results14 _ _ w.heap.size _ rfl hb9 rfl) rfl ?_
        exact ⟨by rw [HE.out, Hr.out]; rfl, ht9.below _ _ (Nat.le_refl _) HP.out.bel⟩
      | false =>
        have hr : R = restP sch rest := by
          rw [HR2.out, if_neg]
          have := HB.out
          revert this
          unfold isHttp
          cases is <;> cases (L == bHttp) <;> cases (L == bHttps) <;> simp
        have Hr := Lib.hid hr
        clear hr
        go_upto_if 41 with (go_at_call 40; refine (hix.out _).mono ?_; rintro e w3 ⟨rfl, hb1⟩; have HP4 := Lib.hid (HP3.out.call hb1); clear hb1)
        clear HP3 hix hcut
        have hsa := stop_any [47, 63, 35] rest
        obtain ⟨st, hst⟩ : ∃ st, st = stop [47, 63, 35] rest := ⟨_, rfl⟩
        rw [← hst] at hsa
        have hstl : st ≤ rest.length := by rw [hst]; unfold stop; exact (List.takeWhile_sublist _).length_le
        have hR3 : R = restP sch rest := Hr.out
        unfold restP at hR3
        rw [← hst] at hR3
        dsimp only at hR3
        generalize Lib.indexAny rest [47, 63, 35] = I at *
        have hzr : (bs rest).size = rest.length := bs_size rest
        have hto := Lib.hid (fun W => str_to rest st hstl W)
        have hfr := Lib.hid (fun W => str_from rest st hstl W)
        have hcl2 := cut_len (rest.take st) [58]
        have hlt : (rest.take st).length ≤ 2048 := by rw [List.length_take]; omega
        have hld : (rest.drop st).length ≤ 2048 := by rw [List.length_drop]; omega
        have hcut2 := Lib.hid (fun W (h : Below w.heap.size w W) => cut_any (rest.take st) [58] (by omega) W (HT.out.below h))
        generalize rest.take st = host at *
        generalize rest.drop st = tail at *
        generalize Lib.cut host [58] = C2 at *
        obtain ⟨name, number, has⟩ := C2
        dsimp only at hcl2 hR3 hcut2
        have HR3 := Lib.hid hR3; have HSA := Lib.hid hsa
        clear hR3 hsa hst
        go_cut [8] (fun v wx => v = .int .i64 (st : Int) ∧ wx = w3)
        case first =>
          by_cases hI : I < 0
          · have t1 : decide (I < 0) = true := decide_eq_true hI
            have e1 : (rest.length : Int) = (st : Int) := by have := HSA.out; rwa [if_pos hI] at this
            have HE1 := Lib.hid e1
            clear e1 hI
            rw [t1]
            clear t1
            go_wp2_with fail
            go_meet
            exact ⟨by rw [HE1.out], rfl⟩
          · have t1 : decide (I < 0) = false := decide_eq_false hI
            have e1 : I = (st : Int) := by have := HSA.out; rwa [if_neg hI] at this
            have HE1 := Lib.hid e1
            clear e1 hI
            rw [t1]
            clear t1
            go_wp2_with fail
            go_meet
            exact ⟨by rw [HE1.out], rfl⟩
        case rest =>
          obtain ⟨rfl, rfl⟩ := hcut
          clear HSA
          go_upto_region 11 with fail
          go_cut [9, 10] (fun v v' wx => v = .string (bs host) ∧ v' = .string (bs tail) ∧ PW w wx zcs (zcs.set 0 (.string (bs sch))))
          case first =>
            have h1 := hto.out
            have h2 := hfr.out
            go_quiet (fail)
            go_wp2_with fail
            go_meet
            exact ⟨rfl, rfl, HP4.out.quiet _⟩
          case rest =>
            obtain ⟨rfl, rfl, hp5⟩ := hcut
            have HP5 := Lib.hid hp5
            clear hp5 HP4 hto hfr
            have hport := Lib.hid (fun W (h : Below w.heap.size w W) => port_any number W (HT.out.below h) (by omega))
            obtain ⟨pt, hpt⟩ : ∃ pt : Nat, pt = if has = true then portP number else 0 := ⟨_, rfl⟩
            have Hpt := Lib.hid hpt
            clear hpt
            go_upto_if 58 with (first | (go_at_call 38; refine (hcut2.out _ HP5.out.bel).mono ?_; rintro e w5 ⟨rfl, hb1⟩; have HP6 := Lib.hid (HP5.out.call hb1); clear hb1) | (refine wpList_storeC rfl 9 (.tmp 57) (.tmp 56) rfl (w.heap.size + 1) 1 _ rfl rfl rfl info9 24 _ HP6.out.b (by exact Nat.le_of_ble_eq_true rfl) ?_; intro X1 hb1 ht1; have HP7 := Lib.hid (HP6.out.set hb1 ht1); clear hb1 ht1))
            clear HP5 HP6 hcut2
            go_cut [] (fun wx => PW w wx zcs ((((zcs.set 0 (.string (bs sch))).set 1 (.string (bs name)))).set 2 (.int .i64 (pt : Int))))
            case first =>
              cases has with
              | true =>
                have hpv : portP number = pt := by rw [Hpt.out]; rfl
                rw [hpv] at hport
                clear hpv
                go_wp2_with (first | (go_at_call 41; refine (hport.out _ HP7.out.bel).mono ?_; rintro e w6 ⟨rfl, hb1⟩; have HP8 := Lib.hid (HP7.out.call hb1); clear hb1) | (refine wpList_storeC rfl 3 (.tmp 61) (.tmp 60) rfl (w.heap.size + 1) 2 _ rfl rfl rfl info3 24 _ HP8.out.b (by exact Nat.le_of_ble_eq_true rfl) ?_; intro X2 hb1 ht1; have HP9 := Lib.hid (HP8.out.set hb1 ht1); clear hb1 ht1))
                go_meet
                exact HP9.out
              | false =>
                have hpv : pt = 0 := by rw [Hpt.out]; rfl
                subst hpv
                go_wp2_with fail
                go_meet
                exact HP7.out
            case rest =>
              have HP8 := Lib.hid hcut
              have c2 : wc.cell? ⟨w.heap.size + 1, 2, none⟩ = some (.int .i64 (pt : Int)) := by rw [blk_cell hcut.b 2]; rfl
              clear hcut HP7 hport
              have hall := Lib.hid (fun W => all43_any name W (by omega))
              have hright := Lib.hid (fun W => right_any tail W (by omega))
              have hzn : (bs name).size = name.length := bs_size name
              obtain ⟨A, hA⟩ : ∃ A, A = name.all hostB := ⟨_, rfl⟩
              obtain ⟨G, hG⟩ : ∃ G, G = rightL tail := ⟨_, rfl⟩
              rw [← hA] at hall
              rw [← hG] at hright
              obtain ⟨B, hB⟩ : ∃ B, B = (decide (name.length < 1) || decide (253 < name.length) || !A || (has && decide (pt = 0)) || !G) := ⟨_, rfl⟩
              have HB2 := Lib.hid hB; have HA := Lib.hid hA; have HG := Lib.hid hG
              clear hB hA hG
              go_upto_region 16 with fail
              go_cut [87] (fun v wx => v = .bool B ∧ PW w wx zcs ((((zcs.set 0 (.string (bs sch))).set 1 (.string (bs name)))).set 2 (.int .i64 (pt : Int))))
              case first =>
                by_cases h1 : name.length < 1
                · have t1 : decide ((name.length : Int) < 1) = true := decide_eq_true (by omega)
                  have eB : B = true := by rw [HB2.out, decide_eq_true h1]; simp
                  clear h1
                  go_wp2_with fail
                  go_meet
                  exact ⟨by rw [eB], HP8.out⟩
                have t1 : decide ((name.length : Int) < 1) = false := decide_eq_false (by omega)
                have d1 : decide (name.length < 1) = false := decide_eq_false h1
                rw [d1] at HB2
                clear h1 d1
                by_cases h2 : 253 < name.length
                · have t2 : decide ((name.length : Int) > 253) = true := decide_eq_true (by omega)
                  have eB : B = true := by rw [HB2.out, decide_eq_true h2]; simp
                  clear h2
                  go_wp2_with fail
                  go_meet
                  exact ⟨by rw [eB], HP8.out⟩
                have t2 : decide ((name.length : Int) > 253) = false := decide_eq_false (by omega)
                have d1 : decide (253 < name.length) = false := decide_eq_false h2
                rw [d1] at HB2
                clear h2 d1
                cases A with
                | false =>
                  have eB : B = true := by rw [HB2.out]; simp
                  go_wp2_with (go_at_call 42; refine (hall.out _).mono ?_; rintro e w' ⟨rfl, rfl⟩)
                  go_meet
                  exact ⟨by rw [eB], HP8.out⟩
                | true =>
                  cases has with
                  | true =>
                    by_cases h3 : pt = 0
                    · subst h3
                      have eB : B = true := by rw [HB2.out]; simp
                      go_wp2_with (go_at_call 42; refine (hall.out _).mono ?_; rintro e w' ⟨rfl, rfl⟩)
                      go_meet
                      exact ⟨by rw [eB], HP8.out⟩
                    · have t3 : ((pt : Int) == 0) = false := by rw [beq_eq_false_iff_ne]; omega
                      rw [decide_eq_false h3] at HB2
                      clear h3
                      cases G
                      all_goals
                        go_wp2_with (first | (go_at_call 42; refine (hall.out _).mono ?_; rintro e w' ⟨rfl, rfl⟩) | (go_at_call 45; refine (hright.out _).mono ?_; rintro e w7 ⟨rfl, hb1⟩; have HP9 := Lib.hid (HP8.out.call hb1); clear hb1))
                        go_meet
                        exact ⟨by rw [HB2.out]; rfl, HP9.out⟩
                  | false =>
                    cases G
                    all_goals
                      go_wp2_with (first | (go_at_call 42; refine (hall.out _).mono ?_; rintro e w' ⟨rfl, rfl⟩) | (go_at_call 45; refine (hright.out _).mono ?_; rintro e w7 ⟨rfl, hb1⟩; have HP9 := Lib.hid (HP8.out.call hb1); clear hb1))
                      go_meet
                      exact ⟨by rw [HB2.out]; rfl, HP9.out⟩
              case rest =>
                obtain ⟨rfl, hp9⟩ := hcut
                have HP := Lib.hid hp9
                clear hp9 HP8 hall hright c2
                have hR4 : R = if B = true then none else if 0 ≤ Lib.index (tailP tail).2.2.1 [35] then none else some ⟨sch, name, pt, (tailP tail).1, (tailP tail).2.1, (tailP tail).2.2.1, (tailP tail).2.2.2.1, (tailP tail).2.2.2.2⟩ := by
                  rw [HR3.out, HB2.out, HA.out, HG.out, Hpt.out]
                  simp only [Bool.or_eq_true, Bool.and_eq_true, decide_eq_true_eq, Bool.not_eq_true', or_assoc]
                  cases has <;> simp
                cases B with
                | true =>
                  have Hr := Lib.hid (hR4.trans (if_pos rfl))
                  clear hR4
                  go_upto_region 17 with fail
                  go_wp2_with (refine wpList_storeL rfl (.tmp 2) (.tmp 88) rfl w.heap.size _ rfl rfl _ HP.out.b2 rfl rfl rfl ?_; intro W9 hb9 ht9)
                  refine bodyPost_ret (v := _) (results_link Tryz.results14 _ _ w.heap.size _ rfl hb9 rfl) rfl ?_
                  exact ⟨by rw [HE.out, Hr.out]; rfl, ht9.below _ _ (Nat.le_refl _) HP.out.bel⟩
                | false =>
                  rw [if_neg (by decide)] at hR4
                  unfold tailP at hR4
                  dsimp only at hR4
                  have hcl3 := cut_len tail [35]
                  have hcut3 := Lib.hid (fun W (h : Below w.heap.size w W) => cut_any tail [35] (by omega) W (HT.out.below h))
                  generalize Lib.cut tail [35] = C3 at *
                  obtain ⟨t2, fr, hasF⟩ := C3
                  dsimp only at hcl3 hcut3 hR4
                  have hcut4 := Lib.hid (fun W (h : Below w.heap.size w W) => cut_any t2 [63] (by omega) W (HT.out.below h))
                  generalize Lib.cut t2 [63] = C4 at *
                  obtain ⟨pth, qr, hasQ⟩ := C4
                  dsimp only at hcut4 hR4
                  have hcont := Lib.hid (fun W => contains_any fr 35 W)
                  obtain ⟨D, hD⟩ : ∃ D, D = decide (0 ≤ Lib.index fr [35]) := ⟨_, rfl⟩
                  rw [← hD] at hcont
                  have hR5 : R = if D = true then none else some ⟨sch, name, pt, pth, qr, fr, hasQ, hasF⟩ := by
                    rw [hR4, hD]; simp
                  have HR5 := Lib.hid hR5
                  clear hR4 hR5 hD HB2 HA HG HR3 hcl3 hcl2 hcl Hpt
                  go_upto_region 19 with (first | (go_at_call 38; refine (hcut3.out _ HP.out.bel).mono ?_; rintro e w8 ⟨rfl, hb1⟩; have HP1 := Lib.hid (HP.out.call hb1); clear hb1) | (refine wpList_storeC rfl 9 (.tmp 95) (.tmp 93) rfl (w.heap.size + 1) 5 _ rfl rfl rfl info9 24 _ HP1.out.b (by exact Nat.le_of_ble_eq_true rfl) ?_; intro X3 hb1 ht1; have HP2 := Lib.hid (HP1.out.set hb1 ht1); clear hb1 ht1) | (refine wpList_storeC rfl 4 (.tmp 96) (.tmp 94) rfl (w.heap.size + 1) 7 _ rfl rfl rfl info4 24 _ HP2.out.b (by exact Nat.le_of_ble_eq_true rfl) ?_; intro X4 hb1 ht1; have HP3 := Lib.hid (HP2.out.set hb1 ht1); clear hb1 ht1))
                  clear HP HP1 HP2 hcut3
                  go_upto_region 20 with (first | (go_at_call 38; refine (hcut4.out _ HP3.out.bel).mono ?_; rintro e w9 ⟨rfl, hb1⟩; have HP4 := Lib.hid (HP3.out.call hb1); clear hb1) | (refine wpList_storeC rfl 9 (.tmp 103) (.tmp 100) rfl (w.heap.size + 1) 3 _ rfl rfl rfl info9 24 _ HP4.out.b (by exact Nat.le_of_ble_eq_true rfl) ?_; intro X5 hb1 ht1; have HP5 := Lib.hid (HP4.out.set hb1 ht1); clear hb1 ht1) | (refine wpList_storeC rfl 9 (.tmp 104) (.tmp 101) rfl (w.heap.size + 1) 4 _ rfl rfl rfl info9 24 _ HP5.out.b (by exact Nat.le_of_ble_eq_true rfl) ?_; intro X6 hb1 ht1; have HP6 := Lib.hid (HP5.out.set hb1 ht1); clear hb1 ht1) | (refine wpList_storeC rfl 4 (.tmp 105) (.tmp 102) rfl (w.heap.size + 1) 6 _ rfl rfl rfl info4 24 _ HP6.out.b (by exact Nat.le_of_ble_eq_true rfl) ?_; intro X7 hb1 ht1; have HP := Lib.hid (HP6.out.set hb1 ht1); clear hb1 ht1))
                  clear HP3 HP4 HP5 HP6 hcut4
                  have c5 : X7.cell? ⟨w.heap.size + 1, 5, none⟩ = some (.string (bs fr)) := by rw [blk_cell HP.out.b 5]; rfl
                  cases D with
                  | true =>
                    have Hr := Lib.hid (HR5.out.trans (if_pos rfl))
                    go_upto_region 21 with (go_at_call 46; refine (hcont.out _).mono ?_; rintro e w' ⟨rfl, rfl⟩)
                    go_wp2_with (refine wpList_storeL rfl (.tmp 2) (.tmp 109) rfl w.heap.size _ rfl rfl _ HP.out.b2 rfl rfl rfl ?_; intro W9 hb9 ht9)
                    refine bodyPost_ret (v := _) (results_link Tryz.results14 _ _ w.heap.size _ rfl hb9 rfl) rfl ?_
                    exact ⟨by rw [HE.out, Hr.out]; rfl, ht9.below _ _ (Nat.le_refl _) HP.out.bel⟩
                  | false =>
                    have Hr := Lib.hid (HR5.out.trans (if_neg (by decide)))
                    go_upto_region 22 with (go_at_call 46; refine (hcont.out _).mono ?_; rintro e w' ⟨rfl, rfl⟩)
                    go_wp2_with (first | (refine wpList_loadL rfl (.tmp 4) rfl (w.heap.size + 1) rfl _ HP.out.b rfl ?_) | (refine wpList_storeL rfl (.tmp 2) (.tmp 110) rfl w.heap.size _ rfl rfl _ HP.out.b2 rfl rfl rfl ?_; intro W9 hb9 ht9))
                    refine bodyPost_ret (v := _) (results_link Tryz.results14 _ _ w.heap.size _ rfl hb9 rfl) rfl ?_
                    exact ⟨by rw [HE.out, Hr.out]; rfl, ht9.below _ _ (Nat.le_refl _) HP.out.bel⟩
  · have hr : R = none := by rw [HR.out]; unfold parseP; rw [if_pos (by omega)]
    have hnl : decide ((s.length : Int) ≤ 2048) = false := decide_eq_false (by omega)
    have Hr := Lib.hid hr
    clear hr
    have hlow := Lib.hid (fun W (h : Below w.heap.size w W) => lower_text [] (by simp) W (HT.out.below h))
    go_enter Tryz.func14, Tryz.ntmps14
    go_upto_region 2 with fail
    obtain ⟨W0, hW0⟩ : ∃ W0, W0 = (w.alloc (.cells zcs.toArray 24)).alloc (.cells zcs.toArray 24) := ⟨_, rfl⟩
    rw [← hW0] at HP0
    rw [show (w.alloc (.cells #[.string ⟨#[]⟩, .string ⟨#[]⟩, .int .i64 0, .string ⟨#[]⟩, .string ⟨#[]⟩, .string ⟨#[]⟩, .bool false, .bool false] 24)).alloc (.cells #[.string ⟨#[]⟩, .string ⟨#[]⟩, .int .i64 0, .string ⟨#[]⟩, .string ⟨#[]⟩, .string ⟨#[]⟩, .bool false, .bool false] 24) = W0 from hW0.symm]
    clear hW0
    have cz : W0.cell? ⟨w.heap.size + 1, 0, none⟩ = some (.string ⟨#[]⟩) := by rw [blk_cell HP0.out.b 0]; rfl
    go_upto_region 7 with (go_at_call 39; refine (hlow.out _ HP0.out.bel).mono ?_; rintro e w1 ⟨rfl, hb1⟩; have HP := Lib.hid (HP0.out.call hb1); clear hb1)
    go_wp2_with (refine wpList_storeL rfl (.tmp 2) (.tmp 37) rfl w.heap.size _ rfl rfl _ HP.out.b2 rfl rfl rfl ?_; intro W9 hb9 ht9)
    refine bodyPost_ret (v := _) (results_link Tryz.results14 _ _ w.heap.size _ rfl hb9 rfl) rfl ?_
    exact ⟨by rw [HE.out, Hr.out]; rfl, ht9.below _ _ (Nat.le_refl _) HP.out.bel⟩
end Go.Proofs.YtcpkkaimingnlaaGreatDoor
end
