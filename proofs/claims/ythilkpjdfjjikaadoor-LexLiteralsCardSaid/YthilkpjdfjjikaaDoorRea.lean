/-
  What is read of bytes, and of a code point's bytes (plain).
-/
import Derived.Test.YthilkpjdfjjikaaDoorDec
namespace Go.Proofs.YthilkpjdfjjikaaDoor

/-- A code point's bytes. -/
def oneL (p : Nat) : List UInt8 :=
  if p < 128 then [UInt8.ofNat p]
  else if p < 2048 then [UInt8.ofNat (192 + p / 64), UInt8.ofNat (128 + p % 64)]
  else if p < 65536 then [UInt8.ofNat (224 + p / 4096), UInt8.ofNat (128 + p / 64 % 64), UInt8.ofNat (128 + p % 64)]
  else [UInt8.ofNat (240 + p / 262144), UInt8.ofNat (128 + p / 4096 % 64), UInt8.ofNat (128 + p / 64 % 64), UInt8.ofNat (128 + p % 64)]

theorem oneL_length (p : Nat) : 1 ≤ (oneL p).length ∧ (oneL p).length ≤ 4 := by
  unfold oneL; split
  · simp
  · split
    · simp
    · split <;> simp
theorem tn (n : Nat) (h : n < 256) : (UInt8.ofNat n).toNat = n := by rw [UInt8.toNat_ofNat', Nat.mod_eq_of_lt (by simpa using h)]
theorem ofn (n : Nat) (x : UInt8) (h : n = x.toNat) : UInt8.ofNat n = x := by subst h; simp
/-- What is read of a code point's bytes is the code point. -/
theorem readL_one (p : Nat) (r : List UInt8) (h : isPt (p : Int) = true) : readL (oneL p ++ r) = ((p : Int), (oneL p).length) := by
  have hp : p ≤ 1114111 ∧ (p < 55296 ∨ 57343 < p) := by
    simp only [isPt, Bool.and_eq_true, Bool.or_eq_true, decide_eq_true_eq] at h; omega
  have hf : ¬ isPt (p : Int) = false := by rw [h]; simp
  unfold oneL
  by_cases h1 : p < 128
  · rw [if_pos h1]
    show readL (UInt8.ofNat p :: r) = _
    simp only [readL]; rw [tn p (by omega), if_pos h1]; rfl
  · rw [if_neg h1]
    by_cases h2 : p < 2048
    · rw [if_pos h2]
      show readL (UInt8.ofNat (192 + p / 64) :: UInt8.ofNat (128 + p % 64) :: r) = _
      have hh : hdB (192 + p / 64) = some (2, 128, p / 64) := by
        unfold hdB; rw [if_pos (by omega), show 192 + p / 64 - 192 = p / 64 by omega]
      simp only [readL]
      rw [tn _ (by omega : 192 + p / 64 < 256), if_neg (by omega), hh]
      dsimp only
      rw [if_neg (by simp), show (2 - 1 : Nat) = 0 + 1 from rfl, contN_cons, tn _ (by omega : 128 + p % 64 < 256), if_neg (by omega)]
      simp only [contN]
      rw [show (64 * ((p / 64 : Nat) : Int) + ((128 + p % 64 : Nat) : Int) - 128) = (p : Int) by omega]
      rw [if_neg (by intro hc; rcases hc with hc | hc; · omega
                     · exact hf hc)]
      rfl
    · rw [if_neg h2]
      by_cases h3 : p < 65536
      · rw [if_pos h3]
        show readL (UInt8.ofNat (224 + p / 4096) :: UInt8.ofNat (128 + p / 64 % 64) :: UInt8.ofNat (128 + p % 64) :: r) = _
        have hh : hdB (224 + p / 4096) = some (3, 2048, p / 4096) := by
          unfold hdB; rw [if_neg (by omega), if_pos (by omega), show 224 + p / 4096 - 224 = p / 4096 by omega]
        simp only [readL]
        rw [tn _ (by omega : 224 + p / 4096 < 256), if_neg (by omega), hh]
        dsimp only
        rw [if_neg (by simp), show (3 - 1 : Nat) = 1 + 1 from rfl, contN_cons, tn _ (by omega : 128 + p / 64 % 64 < 256), if_neg (by omega),
          show (1 : Nat) = 0 + 1 from rfl, contN_cons, tn _ (by omega : 128 + p % 64 < 256), if_neg (by omega)]
        simp only [contN]
        rw [show (64 * (64 * ((p / 4096 : Nat) : Int) + ((128 + p / 64 % 64 : Nat) : Int) - 128) + ((128 + p % 64 : Nat) : Int) - 128) = (p : Int) by omega]
        rw [if_neg (by intro hc; rcases hc with hc | hc; · omega
                       · exact hf hc)]
        rfl
      · rw [if_neg h3]
        show readL (UInt8.ofNat (240 + p / 262144) :: UInt8.ofNat (128 + p / 4096 % 64) :: UInt8.ofNat (128 + p / 64 % 64) :: UInt8.ofNat (128 + p % 64) :: r) = _
        have hh : hdB (240 + p / 262144) = some (4, 65536, p / 262144) := by
          unfold hdB; rw [if_neg (by omega), if_neg (by omega), if_pos (by omega), show 240 + p / 262144 - 240 = p / 262144 by omega]
        simp only [readL]
        rw [tn _ (by omega : 240 + p / 262144 < 256), if_neg (by omega), hh]
        dsimp only
        rw [if_neg (by simp), show (4 - 1 : Nat) = 2 + 1 from rfl, contN_cons, tn _ (by omega : 128 + p / 4096 % 64 < 256), if_neg (by omega),
          show (2 : Nat) = 1 + 1 from rfl, contN_cons, tn _ (by omega : 128 + p / 64 % 64 < 256), if_neg (by omega),
          show (1 : Nat) = 0 + 1 from rfl, contN_cons, tn _ (by omega : 128 + p % 64 < 256), if_neg (by omega)]
        simp only [contN]
        rw [show (64 * (64 * (64 * ((p / 262144 : Nat) : Int) + ((128 + p / 4096 % 64 : Nat) : Int) - 128) + ((128 + p / 64 % 64 : Nat) : Int) - 128) + ((128 + p % 64 : Nat) : Int) - 128) = (p : Int) by omega]
        rw [if_neg (by intro hc; rcases hc with hc | hc; · omega
                       · exact hf hc)]
        rfl
/-- What is read, unless bad, has these bytes. -/
theorem one_read (x : UInt8) (r : List UInt8) (h : 0 ≤ (readL (x :: r)).1) : oneL (readL (x :: r)).1.toNat = (x :: r).take (readL (x :: r)).2 := by
  have hx := x.toNat_lt
  by_cases h0 : x.toNat < 128
  · have e : readL (x :: r) = (((x.toNat : Nat) : Int), 1) := by simp only [readL]; rw [if_pos h0]
    rw [e]
    show oneL ((x.toNat : Nat) : Int).toNat = [x]
    rw [Int.toNat_natCast]; unfold oneL; rw [if_pos h0, ofn _ x rfl]
  · cases hh : hdB x.toNat with
    | none =>
      have e : readL (x :: r) = (-1, 1) := by simp only [readL]; rw [if_neg h0, hh]
      rw [e] at h; exact absurd h (by decide)
    | some v =>
      obtain ⟨n, least, b⟩ := v
      rcases hdB_some hh with ⟨q1, q2, q3, q4, q5⟩ | ⟨q1, q2, q3, q4, q5⟩ | ⟨q1, q2, q3, q4, q5⟩
      · rw [q3, q4, q5] at hh
        clear q3 q4 q5
        match r with
        | [] => exfalso; simp only [readL] at h; rw [if_neg h0, hh] at h; simp at h
        | c :: r =>
          have hc0 := c.toNat_lt
          simp only [readL] at h ⊢
          rw [if_neg h0, hh] at h ⊢
          dsimp only at h ⊢
          rw [if_neg (by simp), show (2 - 1 : Nat) = 0 + 1 from rfl, contN_cons] at h ⊢
          by_cases hc : c.toNat < 128 ∨ 192 ≤ c.toNat
          · rw [if_pos hc] at h; exact absurd h (by decide)
          · rw [if_neg hc] at h ⊢
            simp only [contN] at h ⊢
            obtain ⟨q, hq⟩ : ∃ q : Nat, (64 * ((x.toNat - 192 : Nat) : Int) + (c.toNat : Nat) - 128) = (q : Int) := ⟨(64 * ((x.toNat - 192 : Nat) : Int) + (c.toNat : Nat) - 128).toNat, by omega⟩
            rw [hq] at h ⊢
            by_cases hb : ((q : Int) < ((128 : Nat) : Int) ∨ isPt (q : Int) = false)
            · rw [if_pos hb] at h; exact absurd h (by decide)
            · rw [if_neg hb]
              have hb1 : ¬ (q : Int) < ((128 : Nat) : Int) := fun hx => hb (.inl hx)
              show oneL ((q : Int).toNat) = [x, c]
              rw [Int.toNat_natCast]; unfold oneL
              rw [if_neg (by omega), if_pos (by omega), ofn _ x (by omega), ofn _ c (by omega)]
      · rw [q3, q4, q5] at hh
        clear q3 q4 q5
        match r with
        | [] => exfalso; simp only [readL] at h; rw [if_neg h0, hh] at h; simp at h
        | [c] => exfalso; simp only [readL] at h; rw [if_neg h0, hh] at h; simp at h
        | c :: c2 :: r =>
          have hc0 := c.toNat_lt
          have hc20 := c2.toNat_lt
          simp only [readL] at h ⊢
          rw [if_neg h0, hh] at h ⊢
          dsimp only at h ⊢
          rw [if_neg (by simp), show (3 - 1 : Nat) = 1 + 1 from rfl, contN_cons] at h ⊢
          by_cases hc : c.toNat < 128 ∨ 192 ≤ c.toNat
          · rw [if_pos hc] at h; exact absurd h (by decide)
          · rw [if_neg hc] at h ⊢
            rw [show (1 : Nat) = 0 + 1 from rfl, contN_cons] at h ⊢
            by_cases hc2 : c2.toNat < 128 ∨ 192 ≤ c2.toNat
            · rw [if_pos hc2] at h; exact absurd h (by decide)
            · rw [if_neg hc2] at h ⊢
              simp only [contN] at h ⊢
              obtain ⟨q, hq⟩ : ∃ q : Nat, (64 * (64 * ((x.toNat - 224 : Nat) : Int) + (c.toNat : Nat) - 128) + (c2.toNat : Nat) - 128) = (q : Int) := ⟨(64 * (64 * ((x.toNat - 224 : Nat) : Int) + (c.toNat : Nat) - 128) + (c2.toNat : Nat) - 128).toNat, by omega⟩
              rw [hq] at h ⊢
              by_cases hb : ((q : Int) < ((2048 : Nat) : Int) ∨ isPt (q : Int) = false)
              · rw [if_pos hb] at h; exact absurd h (by decide)
              · rw [if_neg hb]
                have hb1 : ¬ (q : Int) < ((2048 : Nat) : Int) := fun hx => hb (.inl hx)
                show oneL ((q : Int).toNat) = [x, c, c2]
                rw [Int.toNat_natCast]; unfold oneL
                rw [if_neg (by omega), if_neg (by omega), if_pos (by omega), ofn _ x (by omega), ofn _ c (by omega), ofn _ c2 (by omega)]
      · rw [q3, q4, q5] at hh
        clear q3 q4 q5
        match r with
        | [] => exfalso; simp only [readL] at h; rw [if_neg h0, hh] at h; simp at h
        | [c] => exfalso; simp only [readL] at h; rw [if_neg h0, hh] at h; simp at h
        | [c, c2] => exfalso; simp only [readL] at h; rw [if_neg h0, hh] at h; simp at h
        | c :: c2 :: c3 :: r =>
          have hc0 := c.toNat_lt
          have hc20 := c2.toNat_lt
          have hc30 := c3.toNat_lt
          simp only [readL] at h ⊢
          rw [if_neg h0, hh] at h ⊢
          dsimp only at h ⊢
          rw [if_neg (by simp), show (4 - 1 : Nat) = 2 + 1 from rfl, contN_cons] at h ⊢
          by_cases hc : c.toNat < 128 ∨ 192 ≤ c.toNat
          · rw [if_pos hc] at h; exact absurd h (by decide)
          · rw [if_neg hc] at h ⊢
            rw [show (2 : Nat) = 1 + 1 from rfl, contN_cons] at h ⊢
            by_cases hc2 : c2.toNat < 128 ∨ 192 ≤ c2.toNat
            · rw [if_pos hc2] at h; exact absurd h (by decide)
            · rw [if_neg hc2] at h ⊢
              rw [show (1 : Nat) = 0 + 1 from rfl, contN_cons] at h ⊢
              by_cases hc3 : c3.toNat < 128 ∨ 192 ≤ c3.toNat
              · rw [if_pos hc3] at h; exact absurd h (by decide)
              · rw [if_neg hc3] at h ⊢
                simp only [contN] at h ⊢
                obtain ⟨q, hq⟩ : ∃ q : Nat, (64 * (64 * (64 * ((x.toNat - 240 : Nat) : Int) + (c.toNat : Nat) - 128) + (c2.toNat : Nat) - 128) + (c3.toNat : Nat) - 128) = (q : Int) := ⟨(64 * (64 * (64 * ((x.toNat - 240 : Nat) : Int) + (c.toNat : Nat) - 128) + (c2.toNat : Nat) - 128) + (c3.toNat : Nat) - 128).toNat, by omega⟩
                rw [hq] at h ⊢
                by_cases hb : ((q : Int) < ((65536 : Nat) : Int) ∨ isPt (q : Int) = false)
                · rw [if_pos hb] at h; exact absurd h (by decide)
                · rw [if_neg hb]
                  have hb1 : ¬ (q : Int) < ((65536 : Nat) : Int) := fun hx => hb (.inl hx)
                  show oneL ((q : Int).toNat) = [x, c, c2, c3]
                  rw [Int.toNat_natCast]; unfold oneL
                  rw [if_neg (by omega), if_neg (by omega), if_neg (by omega), ofn _ x (by omega), ofn _ c (by omega), ofn _ c2 (by omega), ofn _ c3 (by omega)]

theorem readL_neg (x : UInt8) (r : List UInt8) (h : (readL (x :: r)).1 < 0) : readL (x :: r) = (-1, 1) := by
  simp only [readL] at h ⊢
  split
  · rename_i h0; rw [if_pos h0] at h; exfalso; have : ((x.toNat : Nat) : Int) < 0 := h; omega
  · rename_i h0
    rw [if_neg h0] at h
    split
    · rfl
    · rename_i n least b hh
      rw [hh] at h
      dsimp only at h
      split
      · rfl
      · rename_i h1
        rw [if_neg h1] at h
        split
        · rfl
        · rename_i p hp
          rw [hp] at h
          dsimp only at h
          split
          · rfl
          · rename_i hq
            rw [if_neg hq] at h
            have hpt : isPt p = true := by
              cases hi : isPt p with
              | true => rfl
              | false => exact absurd (Or.inr hi) hq
            have := isPt_range hpt
            exfalso
            have : p < 0 := h
            omega
theorem readL_err (x : UInt8) (r : List UInt8) (h : (readL (x :: r)).1 = 65533) : (readL (x :: r)).2 = 3 := by
  have h1 := one_read x r (by rw [h]; decide)
  have h2 := readL_le x r
  rw [h] at h1
  have h3 := congrArg List.length h1
  rw [List.length_take, List.length_cons] at h3
  have h4 : (oneL (65533 : Int).toNat).length = 3 := by decide
  omega
end Go.Proofs.YthilkpjdfjjikaaDoor
