/-
  Texts of this seat, joined: Dec, Rea. Each says what it proves, ahead of itself.
-/
import Derived.Test.YthilkpjdfjjikaaDoorRd
set_option linter.unusedVariables false
set_option linter.unusedSimpArgs false
section
/-
  What is read of bytes, plain: the model's decoding is the document's reading; texts of code points.
-/
namespace Go.Proofs.YthilkpjdfjjikaaDoor
open Go.RowKit

theorem readL_le (x : UInt8) (r : List UInt8) : 1 ≤ (readL (x :: r)).2 ∧ (readL (x :: r)).2 ≤ r.length + 1 := by
  simp only [readL]
  split
  · exact ⟨Nat.le_refl _, by simp⟩
  · split
    · exact ⟨Nat.le_refl _, by simp⟩
    · rename_i n least b hh
      have hn := hdB_some hh
      split
      · exact ⟨Nat.le_refl _, by simp⟩
      · split
        · exact ⟨Nat.le_refl _, by simp⟩
        · split
          · exact ⟨Nat.le_refl _, by simp⟩
          · exact ⟨by show 1 ≤ n; omega, by show n ≤ r.length + 1; omega⟩
theorem isPt_range {p : Int} (h : isPt p = true) : 0 ≤ p ∧ p ≤ 1114111 := by
  simp only [isPt, Bool.and_eq_true, Bool.or_eq_true, decide_eq_true_eq] at h; omega
theorem readL_range (x : UInt8) (r : List UInt8) : -1 ≤ (readL (x :: r)).1 ∧ (readL (x :: r)).1 ≤ 1114111 := by
  simp only [readL]
  split
  · exact ⟨by show (-1 : Int) ≤ (x.toNat : Nat); omega, by show ((x.toNat : Nat) : Int) ≤ 1114111; omega⟩
  · split
    · exact ⟨by decide, by decide⟩
    · split
      · exact ⟨by decide, by decide⟩
      · split
        · exact ⟨by decide, by decide⟩
        · rename_i p hp
          split
          · exact ⟨by decide, by decide⟩
          · rename_i hq
            have : isPt p = true := by
              cases hi : isPt p with
              | true => rfl
              | false => exact absurd (Or.inr hi) hq
            have := isPt_range this
            exact ⟨by show -1 ≤ p; omega, this.2⟩

def fixP (p : Int) : Int := if p < 0 then 65533 else p
theorem get_at (l : List UInt8) (i : Nat) (h : i < l.length) : ((⟨l.toArray⟩ : ByteArray).get! i) = l.getD i 0 := by
  show l.toArray[i]! = _
  simp [h]
theorem isPt_valid (c : Nat) : isPt (c : Int) = Utf8.valid c := by
  unfold isPt Utf8.valid
  rw [Bool.eq_iff_iff]
  simp
  omega
/-- The numbers that the model reads: at each place the byte, or none behind the end. -/
def ctB : Option Nat → Bool
  | some c => c / 64 == 2
  | none => false
def decN (b0 : Nat) (o1 o2 o3 : Option Nat) : Nat × Nat :=
  if b0 < 0x80 then (b0, 1)
  else if b0 / 32 == 6 && ctB o1 then
    let c := (b0 % 32) * 64 + (o1.getD 0) % 64
    if c ≥ 0x80 then (c, 2) else (65533, 1)
  else if b0 / 16 == 14 && ctB o1 && ctB o2 then
    let c := (b0 % 16) * 4096 + ((o1.getD 0) % 64) * 64 + (o2.getD 0) % 64
    if c ≥ 0x800 && Utf8.valid c then (c, 3) else (65533, 1)
  else if b0 / 8 == 30 && ctB o1 && ctB o2 && ctB o3 then
    let c := (b0 % 8) * 262144 + ((o1.getD 0) % 64) * 4096 + ((o2.getD 0) % 64) * 64 + (o3.getD 0) % 64
    if c ≥ 0x10000 && Utf8.valid c then (c, 4) else (65533, 1)
  else (65533, 1)
theorem decode_decN (l : List UInt8) (i : Nat) (h : i < l.length) :
    Utf8.decode ⟨l.toArray⟩ i = decN (l.getD i 0).toNat (if i + 1 < l.length then some (l.getD (i + 1) 0).toNat else none) (if i + 2 < l.length then some (l.getD (i + 2) 0).toNat else none) (if i + 3 < l.length then some (l.getD (i + 3) 0).toNat else none) := by
  have hs : (⟨l.toArray⟩ : ByteArray).size = l.length := by simp [ByteArray.size]
  have g0 := get_at l i h
  unfold Utf8.decode decN
  simp only [hs, Nat.add_zero, g0]
  by_cases h1 : i + 1 < l.length
  · rw [if_pos h1]
    have g1 := get_at l (i + 1) h1
    simp only [g1, h1]
    by_cases h2 : i + 2 < l.length
    · rw [if_pos h2]
      have g2 := get_at l (i + 2) h2
      simp only [g2, h2]
      by_cases h3 : i + 3 < l.length
      · rw [if_pos h3]
        have g3 := get_at l (i + 3) h3
        simp only [g3, h3]
        simp [Utf8.runeError, ctB]
      · rw [if_neg h3]
        simp [h3, Utf8.runeError, ctB]
    · rw [if_neg h2, if_neg (show ¬ i + 3 < l.length by omega)]
      simp [h2, Utf8.runeError, ctB]
  · rw [if_neg h1, if_neg (show ¬ i + 2 < l.length by omega), if_neg (show ¬ i + 3 < l.length by omega)]
    simp [h1, Utf8.runeError, ctB]
theorem valid_big {c : Nat} (h : 1114111 < c) : Utf8.valid (c : Int) = false := by
  unfold Utf8.valid; simp; omega
theorem fix_bad : ((fixP (-1)).toNat, (1 : Nat)) = (65533, 1) := by decide
theorem decN_bad {b0 : Nat} (o1 o2 o3 : Option Nat) (h : ¬ b0 < 128) (h2 : hdB b0 = none) (hb : b0 < 256) : decN b0 o1 o2 o3 = (65533, 1) := by
  obtain ⟨q1, q2, q3⟩ := hdB_none h2
  unfold decN
  rw [if_neg h]
  split
  · rename_i hc
    simp only [Bool.and_eq_true, beq_iff_eq] at hc
    rw [if_neg (by omega)]
  · split
    · rename_i hc
      simp only [Bool.and_eq_true, beq_iff_eq] at hc
      omega
    · split
      · rename_i hc
        simp only [Bool.and_eq_true, beq_iff_eq] at hc
        dsimp only
        rw [valid_big (c := b0 % 8 * 262144 + o1.getD 0 % 64 * 4096 + o2.getD 0 % 64 * 64 + o3.getD 0 % 64) (by omega)]
        simp
      · rfl
theorem ct_iff (c : Nat) (h : c < 256) : (c / 64 == 2) = true ↔ ¬ (c < 128 ∨ 192 ≤ c) := by
  rw [beq_iff_eq]; omega
def optB (r : List UInt8) (k : Nat) : Option Nat := if k < r.length then some (r.getD k 0).toNat else none
/-- One more byte. -/
theorem contN_cons (k : Nat) (c : UInt8) (r : List UInt8) (b : Int) : contN (k + 1) (c :: r) b = if c.toNat < 128 ∨ 192 ≤ c.toNat then none else contN k r (64 * b + (c.toNat : Nat) - 128) := rfl
theorem ctB_some {c : UInt8} (h : ¬ (c.toNat < 128 ∨ 192 ≤ c.toNat)) : ctB (some c.toNat) = true := (ct_iff c.toNat c.toNat_lt).2 h
theorem ctB_bad {c : UInt8} (h : c.toNat < 128 ∨ 192 ≤ c.toNat) : ctB (some c.toNat) = false := by
  cases hc : ctB (some c.toNat) with
  | false => rfl
  | true => exact absurd h ((ct_iff c.toNat c.toNat_lt).1 hc)

/-- Two bytes. -/
theorem two_dec (x : UInt8) (r : List UInt8) (h : 194 ≤ x.toNat ∧ x.toNat < 224) (o2 o3 : Option Nat) : decN x.toNat (optB r 0) o2 o3 = ((fixP (readL (x :: r)).1).toNat, (readL (x :: r)).2) := by
  have h0 : ¬ x.toNat < 128 := by omega
  have hh : hdB x.toNat = some (2, 128, x.toNat - 192) := by unfold hdB; rw [if_pos h]
  have n14 : (x.toNat / 16 == 14) = false := by rw [beq_eq_false_iff_ne]; omega
  have n30 : (x.toNat / 8 == 30) = false := by rw [beq_eq_false_iff_ne]; omega
  have y6 : (x.toNat / 32 == 6) = true := by rw [beq_iff_eq]; omega
  unfold decN
  rw [if_neg h0, y6, n14, n30]
  simp only [readL]
  rw [if_neg h0, hh]
  cases r with
  | nil => simp [optB, ctB, fixP]
  | cons c r =>
    have ho : optB (c :: r) 0 = some c.toNat := by simp [optB]
    rw [ho]
    have hl : ¬ (c :: r).length + 1 < 2 := by simp
    simp only [if_neg hl]
    by_cases hc : c.toNat < 128 ∨ 192 ≤ c.toNat
    · rw [ctB_bad hc]
      rw [show (2 - 1 : Nat) = 0 + 1 from rfl, contN_cons, if_pos hc]
      simp [fixP]
    · rw [ctB_some hc]
      rw [show (2 - 1 : Nat) = 0 + 1 from rfl, contN_cons, if_neg hc]
      simp only [contN, Bool.true_and, if_true, Option.getD_some]
      have hp : isPt (64 * ((x.toNat - 192 : Nat) : Int) + (c.toNat : Nat) - 128) = true := by
        simp only [isPt, Bool.and_eq_true, Bool.or_eq_true, decide_eq_true_eq]; omega
      rw [if_pos (by omega), if_neg (by rw [hp]; simp; omega)]
      have hf : fixP (64 * ((x.toNat - 192 : Nat) : Int) + (c.toNat : Nat) - 128) = 64 * ((x.toNat - 192 : Nat) : Int) + (c.toNat : Nat) - 128 := if_neg (by omega)
      simp only [hf]
      congr 1
      omega
theorem close_dec (c least n : Nat) : (if (decide (c ≥ least) && Utf8.valid (c : Int)) = true then (c, n) else (65533, 1)) = ((fixP (if (c : Int) < (least : Nat) ∨ isPt (c : Int) = false then ((-1 : Int), 1) else ((c : Int), n)).1).toNat, (if (c : Int) < (least : Nat) ∨ isPt (c : Int) = false then ((-1 : Int), 1) else ((c : Int), n)).2) := by
  rw [isPt_valid]
  by_cases h1 : c ≥ least
  · cases h2 : Utf8.valid (c : Int) with
    | true =>
      have h3 : ¬ ((c : Int) < (least : Nat) ∨ true = false) := by simp; omega
      rw [if_neg h3]
      have hf : fixP (c : Int) = (c : Int) := if_neg (by omega)
      simp [h1, hf]
    | false => rw [if_pos (Or.inr rfl)]; simp [fixP]
  · have h3 : (c : Int) < (least : Nat) := by omega
    rw [if_pos (Or.inl h3)]
    simp [h1, fixP]
/-- Three bytes. -/
theorem three_dec (x : UInt8) (r : List UInt8) (h : 224 ≤ x.toNat ∧ x.toNat < 240) (o3 : Option Nat) : decN x.toNat (optB r 0) (optB r 1) o3 = ((fixP (readL (x :: r)).1).toNat, (readL (x :: r)).2) := by
  have h0 : ¬ x.toNat < 128 := by omega
  have hh : hdB x.toNat = some (3, 2048, x.toNat - 224) := by unfold hdB; rw [if_neg (by omega), if_pos h]
  have n6 : (x.toNat / 32 == 6) = false := by rw [beq_eq_false_iff_ne]; omega
  have n30 : (x.toNat / 8 == 30) = false := by rw [beq_eq_false_iff_ne]; omega
  have y14 : (x.toNat / 16 == 14) = true := by rw [beq_iff_eq]; omega
  unfold decN
  rw [if_neg h0, n6, y14, n30]
  simp only [readL]
  rw [if_neg h0, hh]
  match r with
  | [] => simp [optB, ctB, fixP]
  | [c1] => simp [optB, ctB, fixP]
  | c1 :: c2 :: r =>
    have ho : optB (c1 :: c2 :: r) 0 = some c1.toNat := by simp [optB]
    have ho2 : optB (c1 :: c2 :: r) 1 = some c2.toNat := by simp [optB]
    rw [ho, ho2]
    have hl : ¬ (c1 :: c2 :: r).length + 1 < 3 := by simp
    simp only [if_neg hl]
    rw [show (3 - 1 : Nat) = 1 + 1 from rfl, contN_cons]
    by_cases hc1 : c1.toNat < 128 ∨ 192 ≤ c1.toNat
    · rw [ctB_bad hc1, if_pos hc1]
      simp [fixP]
    · rw [ctB_some hc1, if_neg hc1]
      rw [show (1 : Nat) = 0 + 1 from rfl, contN_cons]
      by_cases hc2 : c2.toNat < 128 ∨ 192 ≤ c2.toNat
      · rw [ctB_bad hc2, if_pos hc2]
        simp [fixP]
      · rw [ctB_some hc2, if_neg hc2]
        simp only [contN, Bool.true_and, Bool.false_and, Bool.false_eq_true, if_true, if_false, Option.getD_some]
        have hx := x.toNat_lt
        have hpc : (64 * (64 * ((x.toNat - 224 : Nat) : Int) + (c1.toNat : Nat) - 128) + (c2.toNat : Nat) - 128 : Int) = ((x.toNat % 16 * 4096 + c1.toNat % 64 * 64 + c2.toNat % 64 : Nat) : Int) := by omega
        rw [hpc]
        exact close_dec _ 2048 3
/-- Four bytes. -/
theorem four_dec (x : UInt8) (r : List UInt8) (h : 240 ≤ x.toNat ∧ x.toNat < 245) : decN x.toNat (optB r 0) (optB r 1) (optB r 2) = ((fixP (readL (x :: r)).1).toNat, (readL (x :: r)).2) := by
  have h0 : ¬ x.toNat < 128 := by omega
  have hh : hdB x.toNat = some (4, 65536, x.toNat - 240) := by unfold hdB; rw [if_neg (by omega), if_neg (by omega), if_pos h]
  have n6 : (x.toNat / 32 == 6) = false := by rw [beq_eq_false_iff_ne]; omega
  have n14 : (x.toNat / 16 == 14) = false := by rw [beq_eq_false_iff_ne]; omega
  have y30 : (x.toNat / 8 == 30) = true := by rw [beq_iff_eq]; omega
  unfold decN
  rw [if_neg h0, n6, n14, y30]
  simp only [readL]
  rw [if_neg h0, hh]
  match r with
  | [] => simp [optB, ctB, fixP]
  | [c1] => simp [optB, ctB, fixP]
  | [c1, c2] => simp [optB, ctB, fixP]
  | c1 :: c2 :: c3 :: r =>
    have ho : optB (c1 :: c2 :: c3 :: r) 0 = some c1.toNat := by simp [optB]
    have ho2 : optB (c1 :: c2 :: c3 :: r) 1 = some c2.toNat := by simp [optB]
    have ho3 : optB (c1 :: c2 :: c3 :: r) 2 = some c3.toNat := by simp [optB]
    rw [ho, ho2, ho3]
    have hl : ¬ (c1 :: c2 :: c3 :: r).length + 1 < 4 := by simp
    simp only [if_neg hl]
    rw [show (4 - 1 : Nat) = 2 + 1 from rfl, contN_cons]
    by_cases hc1 : c1.toNat < 128 ∨ 192 ≤ c1.toNat
    · rw [ctB_bad hc1, if_pos hc1]
      simp [fixP]
    · rw [ctB_some hc1, if_neg hc1]
      rw [show (2 : Nat) = 1 + 1 from rfl, contN_cons]
      by_cases hc2 : c2.toNat < 128 ∨ 192 ≤ c2.toNat
      · rw [ctB_bad hc2, if_pos hc2]
        simp [fixP]
      · rw [ctB_some hc2, if_neg hc2]
        rw [show (1 : Nat) = 0 + 1 from rfl, contN_cons]
        by_cases hc3 : c3.toNat < 128 ∨ 192 ≤ c3.toNat
        · rw [ctB_bad hc3, if_pos hc3]
          simp [fixP]
        · rw [ctB_some hc3, if_neg hc3]
          simp only [contN, Bool.true_and, Bool.false_and, Bool.false_eq_true, if_true, if_false, Option.getD_some]
          have hx := x.toNat_lt
          have hpc : (64 * (64 * (64 * ((x.toNat - 240 : Nat) : Int) + (c1.toNat : Nat) - 128) + (c2.toNat : Nat) - 128) + (c3.toNat : Nat) - 128 : Int) = ((x.toNat % 8 * 262144 + c1.toNat % 64 * 4096 + c2.toNat % 64 * 64 + c3.toNat % 64 : Nat) : Int) := by omega
          rw [hpc]
          exact close_dec _ 65536 4
theorem readL_dec (x : UInt8) (r : List UInt8) : decN x.toNat (optB r 0) (optB r 1) (optB r 2) = ((fixP (readL (x :: r)).1).toNat, (readL (x :: r)).2) := by
  have hx := x.toNat_lt
  by_cases h : x.toNat < 128
  · have e : readL (x :: r) = (((x.toNat : Nat) : Int), 1) := by simp [readL, h]
    unfold decN
    rw [if_pos h, e]
    have hf : fixP ((x.toNat : Nat) : Int) = ((x.toNat : Nat) : Int) := if_neg (by omega)
    simp [hf]
  · cases hh : hdB x.toNat with
    | none =>
      have e : readL (x :: r) = (-1, 1) := by simp only [readL]; rw [if_neg h, hh]
      rw [decN_bad _ _ _ h hh hx, e]
      exact fix_bad.symm
    | some v =>
      obtain ⟨n, least, b⟩ := v
      rcases hdB_some hh with ⟨q1, q2, _⟩ | ⟨q1, q2, _⟩ | ⟨q1, q2, _⟩
      · exact two_dec x r ⟨q1, q2⟩ _ _
      · exact three_dec x r ⟨q1, q2⟩ _
      · exact four_dec x r ⟨q1, q2⟩
/-- THE MODEL's DECODING AT A PLACE IS THE REFERENCE's READING THERE. -/
theorem decode_read (l : List UInt8) (i : Nat) (x : UInt8) (r : List UInt8) (h : l.drop i = x :: r) : Utf8.decode ⟨l.toArray⟩ i = ((fixP (readL (x :: r)).1).toNat, (readL (x :: r)).2) := by
  have hi : i < l.length := by
    rcases Nat.lt_or_ge i l.length with h' | h'
    · exact h'
    · rw [List.drop_of_length_le h'] at h; cases h
  rw [decode_decN l i hi, ← readL_dec]
  have hlen : l.length - i = r.length + 1 := by have := congrArg List.length h; simpa using this
  have hget : ∀ k, (l.drop i).getD k 0 = l.getD (i + k) 0 := by intro k; simp [List.getD_eq_getElem?_getD, List.getElem?_drop]
  have e0 : l.getD i 0 = x := by have := hget 0; rw [h] at this; simpa using this.symm
  have ek : ∀ k, l.getD (i + (k + 1)) 0 = r.getD k 0 := by intro k; rw [← hget (k + 1), h]; rfl
  have e1 : (if i + 1 < l.length then some (l.getD (i + 1) 0).toNat else none) = optB r 0 := by
    unfold optB; rw [show i + 1 = i + (0 + 1) from rfl, ek 0]
    by_cases hk : 0 < r.length
    · rw [if_pos hk, if_pos (by omega)]
    · rw [if_neg hk, if_neg (by omega)]
  have e2 : (if i + 2 < l.length then some (l.getD (i + 2) 0).toNat else none) = optB r 1 := by
    unfold optB; rw [show i + 2 = i + (1 + 1) from rfl, ek 1]
    by_cases hk : 1 < r.length
    · rw [if_pos hk, if_pos (by omega)]
    · rw [if_neg hk, if_neg (by omega)]
  have e3 : (if i + 3 < l.length then some (l.getD (i + 3) 0).toNat else none) = optB r 2 := by
    unfold optB; rw [show i + 3 = i + (2 + 1) from rfl, ek 2]
    by_cases hk : 2 < r.length
    · rw [if_pos hk, if_pos (by omega)]
    · rw [if_neg hk, if_neg (by omega)]
  rw [e0, e1, e2, e3]
end Go.Proofs.YthilkpjdfjjikaaDoor
end
section
/-
  What is read of bytes, and of a code point's bytes (plain).
-/
namespace Go.Proofs.YthilkpjdfjjikaaDoor

/-- A code point's bytes. -/
def oneL (p : Nat) : List UInt8 :=
  if p < 128 then [UInt8.ofNat p]
  else if p < 2048 then [UInt8.ofNat (192 + p / 64), UInt8.ofNat (128 + p % 64)]
  else if p < 65536 then [UInt8.ofNat (224 + p / 4096), UInt8.ofNat (128 + p / 64 % 64), UInt8.ofNat (128 + p % 64)]
  else [UInt8.ofNat (240 + p / 262144), UInt8.ofNat (128 + p / 4096 % 64), UInt8.ofNat (128 + p / 64 % 64), UInt8.ofNat (128 + p % 64)]

theorem oneL_length (p : Nat) : 1 ≤ (oneL p).length ∧ (oneL p).length ≤ 4 := by
  unfold oneL; split
  · simp
  · split
    · simp
    · split <;> simp
theorem tn (n : Nat) (h : n < 256) : (UInt8.ofNat n).toNat = n := by rw [UInt8.toNat_ofNat', Nat.mod_eq_of_lt (by simpa using h)]
theorem ofn (n : Nat) (x : UInt8) (h : n = x.toNat) : UInt8.ofNat n = x := by subst h; simp
/-- What is read of a code point's bytes is the code point. -/
theorem readL_one (p : Nat) (r : List UInt8) (h : isPt (p : Int) = true) : readL (oneL p ++ r) = ((p : Int), (oneL p).length) := by
  have hp : p ≤ 1114111 ∧ (p < 55296 ∨ 57343 < p) := by
    simp only [isPt, Bool.and_eq_true, Bool.or_eq_true, decide_eq_true_eq] at h; omega
  have hf : ¬ isPt (p : Int) = false := by rw [h]; simp
  unfold oneL
  by_cases h1 : p < 128
  · rw [if_pos h1]
    show readL (UInt8.ofNat p :: r) = _
    simp only [readL]; rw [tn p (by omega), if_pos h1]; rfl
  · rw [if_neg h1]
    by_cases h2 : p < 2048
    · rw [if_pos h2]
      show readL (UInt8.ofNat (192 + p / 64) :: UInt8.ofNat (128 + p % 64) :: r) = _
      have hh : hdB (192 + p / 64) = some (2, 128, p / 64) := by
        unfold hdB; rw [if_pos (by omega), show 192 + p / 64 - 192 = p / 64 by omega]
      simp only [readL]
      rw [tn _ (by omega : 192 + p / 64 < 256), if_neg (by omega), hh]
      dsimp only
      rw [if_neg (by simp), show (2 - 1 : Nat) = 0 + 1 from rfl, contN_cons, tn _ (by omega : 128 + p % 64 < 256), if_neg (by omega)]
      simp only [contN]
      rw [show (64 * ((p / 64 : Nat) : Int) + ((128 + p % 64 : Nat) : Int) - 128) = (p : Int) by omega]
      rw [if_neg (by intro hc; rcases hc with hc | hc; · omega
                     · exact hf hc)]
      rfl
    · rw [if_neg h2]
      by_cases h3 : p < 65536
      · rw [if_pos h3]
        show readL (UInt8.ofNat (224 + p / 4096) :: UInt8.ofNat (128 + p / 64 % 64) :: UInt8.ofNat (128 + p % 64) :: r) = _
        have hh : hdB (224 + p / 4096) = some (3, 2048, p / 4096) := by
          unfold hdB; rw [if_neg (by omega), if_pos (by omega), show 224 + p / 4096 - 224 = p / 4096 by omega]
        simp only [readL]
        rw [tn _ (by omega : 224 + p / 4096 < 256), if_neg (by omega), hh]
        dsimp only
        rw [if_neg (by simp), show (3 - 1 : Nat) = 1 + 1 from rfl, contN_cons, tn _ (by omega : 128 + p / 64 % 64 < 256), if_neg (by omega),
          show (1 : Nat) = 0 + 1 from rfl, contN_cons, tn _ (by omega : 128 + p % 64 < 256), if_neg (by omega)]
        simp only [contN]
        rw [show (64 * (64 * ((p / 4096 : Nat) : Int) + ((128 + p / 64 % 64 : Nat) : Int) - 128) + ((128 + p % 64 : Nat) : Int) - 128) = (p : Int) by omega]
        rw [if_neg (by intro hc; rcases hc with hc | hc; · omega
                       · exact hf hc)]
        rfl
      · rw [if_neg h3]
        show readL (UInt8.ofNat (240 + p / 262144) :: UInt8.ofNat (128 + p / 4096 % 64) :: UInt8.ofNat (128 + p / 64 % 64) :: UInt8.ofNat (128 + p % 64) :: r) = _
        have hh : hdB (240 + p / 262144) = some (4, 65536, p / 262144) := by
          unfold hdB; rw [if_neg (by omega), if_neg (by omega), if_pos (by omega), show 240 + p / 262144 - 240 = p / 262144 by omega]
        simp only [readL]
        rw [tn _ (by omega : 240 + p / 262144 < 256), if_neg (by omega), hh]
        dsimp only
        rw [if_neg (by simp), show (4 - 1 : Nat) = 2 + 1 from rfl, contN_cons, tn _ (by omega : 128 + p / 4096 % 64 < 256), if_neg (by omega),
          show (2 : Nat) = 1 + 1 from rfl, contN_cons, tn _ (by omega : 128 + p / 64 % 64 < 256), if_neg (by omega),
          show (1 : Nat) = 0 + 1 from rfl, contN_cons, tn _ (by omega : 128 + p % 64 < 256), if_neg (by omega)]
        simp only [contN]
        rw [show (64 * (64 * (64 * ((p / 262144 : Nat) : Int) + ((128 + p / 4096 % 64 : Nat) : Int) - 128) + ((128 + p / 64 % 64 : Nat) : Int) - 128) + ((128 + p % 64 : Nat) : Int) - 128) = (p : Int) by omega]
        rw [if_neg (by intro hc; rcases hc with hc | hc; · omega
                       · exact hf hc)]
        rfl
/-- What is read, unless bad, has these bytes. -/
theorem one_read (x : UInt8) (r : List UInt8) (h : 0 ≤ (readL (x :: r)).1) : oneL (readL (x :: r)).1.toNat = (x :: r).take (readL (x :: r)).2 := by
  have hx := x.toNat_lt
  by_cases h0 : x.toNat < 128
  · have e : readL (x :: r) = (((x.toNat : Nat) : Int), 1) := by simp only [readL]; rw [if_pos h0]
    rw [e]
    show oneL ((x.toNat : Nat) : Int).toNat = [x]
    rw [Int.toNat_natCast]; unfold oneL; rw [if_pos h0, ofn _ x rfl]
  · cases hh : hdB x.toNat with
    | none =>
      have e : readL (x :: r) = (-1, 1) := by simp only [readL]; rw [if_neg h0, hh]
      rw [e] at h; exact absurd h (by decide)
    | some v =>
      obtain ⟨n, least, b⟩ := v
      rcases hdB_some hh with ⟨q1, q2, q3, q4, q5⟩ | ⟨q1, q2, q3, q4, q5⟩ | ⟨q1, q2, q3, q4, q5⟩
      · rw [q3, q4, q5] at hh
        clear q3 q4 q5
        match r with
        | [] => exfalso; simp only [readL] at h; rw [if_neg h0, hh] at h; simp at h
        | c :: r =>
          have hc0 := c.toNat_lt
          simp only [readL] at h ⊢
          rw [if_neg h0, hh] at h ⊢
          dsimp only at h ⊢
          rw [if_neg (by simp), show (2 - 1 : Nat) = 0 + 1 from rfl, contN_cons] at h ⊢
          by_cases hc : c.toNat < 128 ∨ 192 ≤ c.toNat
          · rw [if_pos hc] at h; exact absurd h (by decide)
          · rw [if_neg hc] at h ⊢
            simp only [contN] at h ⊢
            obtain ⟨q, hq⟩ : ∃ q : Nat, (64 * ((x.toNat - 192 : Nat) : Int) + (c.toNat : Nat) - 128) = (q : Int) := ⟨(64 * ((x.toNat - 192 : Nat) : Int) + (c.toNat : Nat) - 128).toNat, by omega⟩
            rw [hq] at h ⊢
            by_cases hb : ((q : Int) < ((128 : Nat) : Int) ∨ isPt (q : Int) = false)
            · rw [if_pos hb] at h; exact absurd h (by decide)
            · rw [if_neg hb]
              have hb1 : ¬ (q : Int) < ((128 : Nat) : Int) := fun hx => hb (.inl hx)
              show oneL ((q : Int).toNat) = [x, c]
              rw [Int.toNat_natCast]; unfold oneL
              rw [if_neg (by omega), if_pos (by omega), ofn _ x (by omega), ofn _ c (by omega)]
      · rw [q3, q4, q5] at hh
        clear q3 q4 q5
        match r with
        | [] => exfalso; simp only [readL] at h; rw [if_neg h0, hh] at h; simp at h
        | [c] => exfalso; simp only [readL] at h; rw [if_neg h0, hh] at h; simp at h
        | c :: c2 :: r =>
          have hc0 := c.toNat_lt
          have hc20 := c2.toNat_lt
          simp only [readL] at h ⊢
          rw [if_neg h0, hh] at h ⊢
          dsimp only at h ⊢
          rw [if_neg (by simp), show (3 - 1 : Nat) = 1 + 1 from rfl, contN_cons] at h ⊢
          by_cases hc : c.toNat < 128 ∨ 192 ≤ c.toNat
          · rw [if_pos hc] at h; exact absurd h (by decide)
          · rw [if_neg hc] at h ⊢
            rw [show (1 : Nat) = 0 + 1 from rfl, contN_cons] at h ⊢
            by_cases hc2 : c2.toNat < 128 ∨ 192 ≤ c2.toNat
            · rw [if_pos hc2] at h; exact absurd h (by decide)
            · rw [if_neg hc2] at h ⊢
              simp only [contN] at h ⊢
              obtain ⟨q, hq⟩ : ∃ q : Nat, (64 * (64 * ((x.toNat - 224 : Nat) : Int) + (c.toNat : Nat) - 128) + (c2.toNat : Nat) - 128) = (q : Int) := ⟨(64 * (64 * ((x.toNat - 224 : Nat) : Int) + (c.toNat : Nat) - 128) + (c2.toNat : Nat) - 128).toNat, by omega⟩
              rw [hq] at h ⊢
              by_cases hb : ((q : Int) < ((2048 : Nat) : Int) ∨ isPt (q : Int) = false)
              · rw [if_pos hb] at h; exact absurd h (by decide)
              · rw [if_neg hb]
                have hb1 : ¬ (q : Int) < ((2048 : Nat) : Int) := fun hx => hb (.inl hx)
                show oneL ((q : Int).toNat) = [x, c, c2]
                rw [Int.toNat_natCast]; unfold oneL
                rw [if_neg (by omega), if_neg (by omega), if_pos (by omega), ofn _ x (by omega), ofn _ c (by omega), ofn _ c2 (by omega)]
      · rw [q3, q4, q5] at hh
        clear q3 q4 q5
        match r with
        | [] => exfalso; simp only [readL] at h; rw [if_neg h0, hh] at h; simp at h
        | [c] => exfalso; simp only [readL] at h; rw [if_neg h0, hh] at h; simp at h
        | [c, c2] => exfalso; simp only [readL] at h; rw [if_neg h0, hh] at h; simp at h
        | c :: c2 :: c3 :: r =>
          have hc0 := c.toNat_lt
          have hc20 := c2.toNat_lt
          have hc30 := c3.toNat_lt
          simp only [readL] at h ⊢
          rw [if_neg h0, hh] at h ⊢
          dsimp only at h ⊢
          rw [if_neg (by simp), show (4 - 1 : Nat) = 2 + 1 from rfl, contN_cons] at h ⊢
          by_cases hc : c.toNat < 128 ∨ 192 ≤ c.toNat
          · rw [if_pos hc] at h; exact absurd h (by decide)
          · rw [if_neg hc] at h ⊢
            rw [show (2 : Nat) = 1 + 1 from rfl, contN_cons] at h ⊢
            by_cases hc2 : c2.toNat < 128 ∨ 192 ≤ c2.toNat
            · rw [if_pos hc2] at h; exact absurd h (by decide)
            · rw [if_neg hc2] at h ⊢
              rw [show (1 : Nat) = 0 + 1 from rfl, contN_cons] at h ⊢
              by_cases hc3 : c3.toNat < 128 ∨ 192 ≤ c3.toNat
              · rw [if_pos hc3] at h; exact absurd h (by decide)
              · rw [if_neg hc3] at h ⊢
                simp only [contN] at h ⊢
                obtain ⟨q, hq⟩ : ∃ q : Nat, (64 * (64 * (64 * ((x.toNat - 240 : Nat) : Int) + (c.toNat : Nat) - 128) + (c2.toNat : Nat) - 128) + (c3.toNat : Nat) - 128) = (q : Int) := ⟨(64 * (64 * (64 * ((x.toNat - 240 : Nat) : Int) + (c.toNat : Nat) - 128) + (c2.toNat : Nat) - 128) + (c3.toNat : Nat) - 128).toNat, by omega⟩
                rw [hq] at h ⊢
                by_cases hb : ((q : Int) < ((65536 : Nat) : Int) ∨ isPt (q : Int) = false)
                · rw [if_pos hb] at h; exact absurd h (by decide)
                · rw [if_neg hb]
                  have hb1 : ¬ (q : Int) < ((65536 : Nat) : Int) := fun hx => hb (.inl hx)
                  show oneL ((q : Int).toNat) = [x, c, c2, c3]
                  rw [Int.toNat_natCast]; unfold oneL
                  rw [if_neg (by omega), if_neg (by omega), if_neg (by omega), ofn _ x (by omega), ofn _ c (by omega), ofn _ c2 (by omega), ofn _ c3 (by omega)]

theorem readL_neg (x : UInt8) (r : List UInt8) (h : (readL (x :: r)).1 < 0) : readL (x :: r) = (-1, 1) := by
  simp only [readL] at h ⊢
  split
  · rename_i h0; rw [if_pos h0] at h; exfalso; have : ((x.toNat : Nat) : Int) < 0 := h; omega
  · rename_i h0
    rw [if_neg h0] at h
    split
    · rfl
    · rename_i n least b hh
      rw [hh] at h
      dsimp only at h
      split
      · rfl
      · rename_i h1
        rw [if_neg h1] at h
        split
        · rfl
        · rename_i p hp
          rw [hp] at h
          dsimp only at h
          split
          · rfl
          · rename_i hq
            rw [if_neg hq] at h
            have hpt : isPt p = true := by
              cases hi : isPt p with
              | true => rfl
              | false => exact absurd (Or.inr hi) hq
            have := isPt_range hpt
            exfalso
            have : p < 0 := h
            omega
theorem readL_err (x : UInt8) (r : List UInt8) (h : (readL (x :: r)).1 = 65533) : (readL (x :: r)).2 = 3 := by
  have h1 := one_read x r (by rw [h]; decide)
  have h2 := readL_le x r
  rw [h] at h1
  have h3 := congrArg List.length h1
  rw [List.length_take, List.length_cons] at h3
  have h4 : (oneL (65533 : Int).toNat).length = 3 := by decide
  omega
end Go.Proofs.YthilkpjdfjjikaaDoor
end
