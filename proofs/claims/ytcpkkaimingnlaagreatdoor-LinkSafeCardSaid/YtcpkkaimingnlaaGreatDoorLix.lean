/-
  strings.IndexRune of any decoded code point in a text of ASCII.
-/
import Derived.Test.YtcpkkaimingnlaaGreatDoorLir
namespace Go.Proofs.YtcpkkaimingnlaaGreatDoor
open Go.RowKit

/-- A code point's bytes. -/
def oneL (p : Nat) : List UInt8 :=
  if p < 128 then [UInt8.ofNat p]
  else if p < 2048 then [UInt8.ofNat (192 + p / 64), UInt8.ofNat (128 + p % 64)]
  else if p < 65536 then [UInt8.ofNat (224 + p / 4096), UInt8.ofNat (128 + p / 64 % 64), UInt8.ofNat (128 + p % 64)]
  else [UInt8.ofNat (240 + p / 262144), UInt8.ofNat (128 + p / 4096 % 64), UInt8.ofNat (128 + p / 64 % 64), UInt8.ofNat (128 + p % 64)]
theorem tn (n : Nat) (h : n < 256) : (UInt8.ofNat n).toNat = n := by rw [UInt8.toNat_ofNat', Nat.mod_eq_of_lt (by simpa using h)]
theorem valid_two (x : Nat) : Lib.validRune (x : Int) = Utf8.valid (x : Int) := by
  unfold Lib.validRune Utf8.valid
  rw [Bool.eq_iff_iff]
  simp
  omega
theorem enc_utf8 (p : Nat) (hv : Utf8.valid (p : Int) = true) : Utf8.encode (p : Int) = ⟨(oneL p).toArray⟩ := by
  unfold Utf8.encode oneL
  simp only [hv, if_true, Int.toNat_natCast]
  by_cases h1 : p < 128
  · simp [h1]
  · by_cases h2 : p < 2048
    · simp [h1, h2]
    · by_cases h3 : p < 65536
      · simp [h1, h2, h3]
      · simp [h1, h2, h3]
theorem one_last (x : Nat) (h : 128 ≤ x) (hx : x ≤ 1114111) : ∃ k, 1 ≤ k ∧ k < 4 ∧ (oneL x).length = k + 1 ∧ 128 ≤ ((oneL x).getD k 0).toNat := by
  unfold oneL
  rw [if_neg (by omega)]
  by_cases h2 : x < 2048
  · rw [if_pos h2]
    exact ⟨1, by omega, by omega, rfl, by show 128 ≤ (UInt8.ofNat (128 + x % 64)).toNat; rw [tn _ (by omega)]; omega⟩
  · rw [if_neg h2]
    by_cases h3 : x < 65536
    · rw [if_pos h3]
      exact ⟨2, by omega, by omega, rfl, by show 128 ≤ (UInt8.ofNat (128 + x % 64)).toNat; rw [tn _ (by omega)]; omega⟩
    · rw [if_neg h3]
      exact ⟨3, by omega, by omega, rfl, by show 128 ≤ (UInt8.ofNat (128 + x % 64)).toNat; rw [tn _ (by omega)]; omega⟩
theorem index_none (l : List UInt8) (c : UInt8) (hl : ∀ x ∈ l, x.toNat < 128) (hc : 128 ≤ c.toNat) : Lib.indexByte l c = -1 := by
  have h1 := Lib.contains_iff_indexByte l c
  have h2 : l.contains c = false := by
    cases h : l.contains c with
    | false => rfl
    | true =>
      have := hl c (by simpa using h)
      omega
  rw [h2] at h1
  have h3 := of_decide_eq_false h1.symm
  have h4 := Lib.indexByte_ge l c
  omega
theorem drew_below (w : World) (q : Nat) : Below w.heap.size w (w.drewN q) := by
  have : ∀ q, Below w.heap.size w (w.drewN q) := by
    intro q
    induction q with
    | zero => exact Below.refl _ _
    | succ q ih => exact ih.drew
  exact this q
/-- IndexRune of a decoded code point beyond ASCII, in ASCII: -1. -/
theorem ir_any (l : Bs) (hl : ∀ x ∈ l, x.toNat < 128) (x : Nat) (h : 128 ≤ x) (hx : x ≤ 1114111) (hv : Utf8.valid (x : Int) = true) (w : World) :
    Calls Tryz.prog 79 #[.string (bs l), .int .i32 ((x : Nat) : Int)] w fun e w' => e = .returned (.int .i64 (-1)) ∧ Below w.heap.size w w' := by
  by_cases h1 : x = 65533
  · subst h1
    exact ir_err l hl w
  · have h1z : (x : Int) ≠ 65533 := by omega
    have hvr : Lib.validRune (x : Int) = true := by rw [valid_two]; exact hv
    obtain ⟨k, hk1, hk4, hle, hb⟩ := one_last x h hx
    have hRs : (⟨(oneL x).toArray⟩ : ByteArray).size = k + 1 := by simp [ByteArray.size, hle]
    rcases Nat.lt_or_ge k l.length with hk | hk
    · have ha : (l.getD k 0).toNat < 128 := hl _ (by simp [hk])
      have hbs := fun W => str_byte (oneL x) k (by omega) W
      have has := fun W => str_byte l k hk W
      have hss := fun W => str_from l (k + 1) (by omega) W
      refine (ir_none (bs l) ⟨(oneL x).toArray⟩ (bs (l.drop (k + 1))) x k l.length _ _ (by omega) h1z hvr (enc_utf8 x hv) hRs hk1 (bs_size l) hk (by omega) has hbs (fun W => hss W) ?_ ?_ w).mono
        fun e w' ⟨he, q, hq⟩ => ⟨he, by rw [hq]; exact drew_below _ _⟩
      · rw [bne_iff_ne]; omega
      · refine index_none _ _ (fun y hy => hl y (List.mem_of_mem_drop hy)) ?_
        have : ((((oneL x).getD k 0).toNat : Nat) : Int).toNat.toUInt8 = (oneL x).getD k 0 := by simp
        rw [this]; exact hb
    · exact (ir_shut (bs l) ⟨(oneL x).toArray⟩ x k l.length (by omega) h1z hvr (enc_utf8 x hv) hRs hk1 (bs_size l) hk (by omega) w).mono
        fun e w' ⟨he, q, hq⟩ => ⟨he, by rw [hq]; exact drew_below _ _⟩
end Go.Proofs.YtcpkkaimingnlaaGreatDoor
