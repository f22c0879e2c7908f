/-
  Links, plain: small letters of any text; numbers; the grammar.
-/
import Derived.Test.YtcpkkaimingnlaaGreatDoorLka
import Derived.Shelf.Strings.CaseAny
namespace Go.Proofs.YtcpkkaimingnlaaGreatDoor

def lowS : List Int := [104, 112, 115, 116]
theorem lower_far (r : Int) (h : 128 ≤ r) : Lib.toLowerU r ∉ lowS := by
  unfold Lib.toLowerU
  rw [if_neg (by omega)]
  unfold Lib.toR Lib.lookupGo
  cases hi : Lib.lookupIdx Lib.caseA r (Lib.caseA.size + 1) 0 Lib.caseA.size with
  | none => show r ∉ lowS; unfold lowS; simp only [List.mem_cons, List.not_mem_nil, or_false]; omega
  | some i =>
    obtain ⟨hil, hlo, hhi⟩ := Lib.lookupIdx_some Lib.caseA r _ _ _ i hi
    have hm : noRow (Lib.caseA.getD i (0, 0, 0, 0, 0)) = true := by
      have hm : Lib.caseA.getD i (0, 0, 0, 0, 0) ∈ Lib.caseT := by
        unfold Lib.caseA at hil ⊢
        simp only [List.size_toArray] at hil
        simp [Array.getD, hil]
      exact List.all_eq_true.1 noRows _ hm
    show Lib.convertR 1 r (Lib.caseA.getD i (0, 0, 0, 0, 0)) ∉ lowS
    generalize Lib.caseA.getD i (0, 0, 0, 0, 0) = x at *
    unfold noRow at hm
    simp only [Bool.or_eq_true, Bool.and_eq_true, decide_eq_true_eq, List.all_eq_true] at hm
    rcases hm with hm | ⟨hm1, hm2⟩
    · omega
    · intro hmem
      have hc := hm2 _ hmem
      unfold Lib.convertR at hc
      by_cases hd : x.delta 1 > 1114111
      · unfold Lib.convertR at hmem
        rw [if_pos hd] at hmem
        unfold lowS at hmem
        simp only [List.mem_cons, List.not_mem_nil, or_false] at hmem
        have e1 : ((1 % 2 : Nat) : Int) = 1 := rfl
        rw [e1] at hmem
        omega
      · rw [if_neg hd, if_neg hd] at hc
        simp only [decide_eq_true_eq] at hc
        omega
theorem lowerB_small (c : UInt8) : Lib.lowerB c = smallB c := by
  unfold Lib.lowerB Lib.isUpperB smallB
  simp [UInt8.le_iff_toNat_le]
theorem low_ascii (s : Bs) (h : ∀ b ∈ s, b.toNat < 128) : Lib.toLowerD s = small s := by
  rw [Lib.toLowerD_ascii s h]
  unfold Lib.toLowerA small
  exact List.map_congr_left fun b _ => lowerB_small b
theorem smallB_ascii (c : UInt8) : (smallB c).toNat < 128 ↔ c.toNat < 128 := by
  unfold smallB
  split
  · rename_i h
    simp only [Bool.and_eq_true, decide_eq_true_eq] at h
    rw [UInt8.toNat_add]
    show (c.toNat + 32) % 256 < 128 ↔ _
    omega
  · exact Iff.rfl
theorem encode_S (r : Int) (h0 : 0 ≤ r) (h : ∀ b ∈ Lib.encodeRune r, ((b.toNat : Nat) : Int) ∈ lowS) : r ∈ lowS := by
  by_cases h1 : r ≤ 127
  · unfold Lib.encodeRune at h
    rw [Lib.encodeRuneZ_one h0 h1] at h
    have := h _ (List.mem_map.2 ⟨r, List.mem_singleton.2 rfl, rfl⟩)
    have e : ((r.toNat.toUInt8.toNat : Nat) : Int) = r := by
      rw [UInt8.toNat_ofNat']
      omega
    rwa [e] at this
  · exfalso
    obtain ⟨b, hb, hb2⟩ : ∃ b ∈ Lib.encodeRune r, 128 ≤ b.toNat := by
      by_cases h2 : r ≤ 2047
      · refine ⟨_, List.mem_map.2 ⟨192 + r / 64, ?_, rfl⟩, ?_⟩
        · rw [Lib.encodeRuneZ_two (by omega) h2]; exact List.mem_cons_self
        · rw [UInt8.toNat_ofNat']; omega
      · unfold Lib.encodeRune Lib.encodeRuneZ
        simp only [show ¬ (0 ≤ r ∧ r ≤ 127) by omega, show ¬ (128 ≤ r ∧ r ≤ 2047) by omega, if_false]
        repeat' split
        all_goals refine ⟨_, List.mem_map.2 ⟨_, List.mem_cons_self, rfl⟩, ?_⟩
        all_goals rw [UInt8.toNat_ofNat']
        all_goals omega
    have := h b hb
    unfold lowS at this
    simp only [List.mem_cons, List.not_mem_nil, or_false] at this
    omega
theorem decode_small (b : UInt8) (t : Bs) (h : (Lib.decodeL (b :: t)).1 ≤ 127) : b.toNat < 128 := by
  by_cases hv : (Lib.decodeL (b :: t)).1 = 65533 ∧ (Lib.decodeL (b :: t)).2 = 1
  · omega
  · have he := Lib.encode_decode (b :: t) (by simp) hv
    unfold Lib.encodeRune at he
    rw [Lib.encodeRuneZ_one (by omega) (by omega)] at he
    have hw : (Lib.decodeL (b :: t)).2 ≠ 0 := by
      intro h0; rw [h0] at he; cases he
    obtain ⟨k, hk⟩ : ∃ k, (Lib.decodeL (b :: t)).2 = k + 1 := ⟨_, (Nat.succ_pred hw).symm⟩
    rw [hk, List.take_succ_cons] at he
    injection he with he _
    rw [← he, UInt8.toNat_ofNat']
    omega
theorem low_back : ∀ (n : Nat) (s : Bs), s.length ≤ n → (∀ b ∈ Lib.toLowerD s, ((b.toNat : Nat) : Int) ∈ lowS) → ∀ b ∈ s, b.toNat < 128
  | _, [], _, _, b, hb => by cases hb
  | 0, x :: s, h, _, _, _ => by simp at h
  | n + 1, x :: s, hn, h, b, hb => by
    have hst := Lib.mapD_step Lib.toLowerU (x :: s) (by simp)
    have hr : (Lib.decodeL (x :: s)).1 ≤ 1114111 := Lib.decodeL_rune (x :: s)
    have h0 := (Lib.toLowerU_range (Lib.decodeL (x :: s)).1 hr).1
    rw [if_pos h0] at hst
    unfold Lib.toLowerD at h
    rw [hst] at h
    have hS := encode_S _ h0 (fun b hb => h b (List.mem_append_left _ hb))
    have hsm : (Lib.decodeL (x :: s)).1 ≤ 127 := by
      refine Classical.byContradiction fun hc => ?_
      exact lower_far _ (by omega) hS
    have hx := decode_small x s hsm
    rw [Lib.decodeL_ascii x s hx] at h
    dsimp only at h
    rw [List.drop_succ_cons, List.drop_zero] at h
    rcases List.mem_cons.1 hb with rfl | hb
    · exact hx
    · exact low_back n s (by rw [List.length_cons] at hn; omega) (fun b hb => h b (List.mem_append_right _ hb)) b hb
theorem isHttp_S (s : Bs) (h : isHttp s = true) : ∀ b ∈ s, ((b.toNat : Nat) : Int) ∈ lowS := by
  unfold isHttp at h
  rw [Bool.or_eq_true, beq_iff_eq, beq_iff_eq] at h
  rcases h with rfl | rfl <;> decide
/-- Which texts have "http", "https" for their small letters. -/
theorem low_http (s : Bs) : isHttp (Lib.toLowerD s) = isHttp (small s) := by
  by_cases ha : ∀ b ∈ s, b.toNat < 128
  · rw [low_ascii s ha]
  · have h1 : isHttp (Lib.toLowerD s) = false := by
      cases h : isHttp (Lib.toLowerD s) with
      | false => rfl
      | true => exact absurd (low_back s.length s (Nat.le_refl _) (isHttp_S _ h)) ha
    have h2 : isHttp (small s) = false := by
      cases h : isHttp (small s) with
      | false => rfl
      | true =>
        exfalso
        apply ha
        intro b hb
        have := isHttp_S _ h (smallB b) (List.mem_map.2 ⟨b, hb, rfl⟩)
        rw [← smallB_ascii]
        unfold lowS at this
        simp only [List.mem_cons, List.not_mem_nil, or_false] at this
        omega
    rw [h1, h2]

/-! ### Numbers -/
def valD (s : Bs) : Nat := s.foldl (fun n c => 10 * n + (c.toNat - 48)) 0
def decT (n : Nat) : Bs := if h : n < 10 then [UInt8.ofNat (48 + n)] else decT (n / 10) ++ [UInt8.ofNat (48 + n % 10)]
termination_by n
decreasing_by omega
theorem valD_snoc (s : Bs) (c : UInt8) : valD (s ++ [c]) = 10 * valD s + (c.toNat - 48) := by
  unfold valD; rw [List.foldl_append]; rfl
theorem ofn48 (n : Nat) (h : n < 10) : (UInt8.ofNat (48 + n)).toNat = 48 + n := by
  rw [UInt8.toNat_ofNat']; omega
theorem decT_spec : ∀ n : Nat, valD (decT n) = n ∧ (∀ c ∈ decT n, digB c = true) ∧ decT n ≠ [] ∧ (1 ≤ n → (decT n).head? ≠ some 48) ∧ 10 ^ (decT n).length ≤ 10 * max n 1 := by
  intro n
  induction n using Nat.strongRecOn with
  | _ n ih =>
    unfold decT
    by_cases h : n < 10
    · rw [dif_pos h]
      have e := ofn48 n h
      refine ⟨?_, ?_, by simp, ?_, ?_⟩
      · show valD ([] ++ [_]) = n; rw [valD_snoc, e]; show 10 * 0 + _ = n; omega
      · intro c hc
        rw [List.mem_singleton.1 hc]
        unfold digB; rw [e]; simp; omega
      · intro h1 h2
        simp only [List.head?_cons, Option.some.injEq] at h2
        have := congrArg UInt8.toNat h2
        rw [e] at this
        have : 48 + n = 48 := this
        omega
      · show 10 ^ 1 ≤ _; omega
    · rw [dif_neg h]
      obtain ⟨h1, h2, h3, h4, h5⟩ := ih (n / 10) (by omega)
      have e := ofn48 (n % 10) (by omega)
      refine ⟨?_, ?_, by simp, ?_, ?_⟩
      · rw [valD_snoc, h1, e]; omega
      · intro c hc
        rcases List.mem_append.1 hc with hc | hc
        · exact h2 c hc
        · rw [List.mem_singleton.1 hc]
          unfold digB; rw [e]; simp; omega
      · intro _
        have := h4 (by omega)
        cases hd : decT (n / 10) with
        | nil => exact absurd hd h3
        | cons x r => rw [hd] at this; simpa using this
      · rw [List.length_append, List.length_singleton, Nat.pow_succ]
        have : max (n / 10) 1 = n / 10 := by omega
        rw [this] at h5
        have : max n 1 = n := by omega
        omega
/-- A number's digits, when there is no idle zero, are these. -/
theorem decT_val : ∀ (k : Nat) (s : Bs), s.length ≤ k → s ≠ [] → (∀ c ∈ s, digB c = true) → s.head? ≠ some 48 → decT (valD s) = s ∧ 1 ≤ valD s
  | 0, s, h, h0, _, _ => absurd (List.length_eq_zero_iff.1 (by omega)) h0
  | k + 1, s, hk, h0, hd, hh => by
    obtain ⟨t, c, rfl⟩ : ∃ t c, s = t ++ [c] := ⟨s.dropLast, s.getLast h0, (List.dropLast_concat_getLast h0).symm⟩
    have hc := hd c (List.mem_append_right _ (List.mem_singleton.2 rfl))
    have hcl := c.toNat_lt
    unfold digB at hc
    simp only [Bool.and_eq_true, decide_eq_true_eq] at hc
    have hcc : UInt8.ofNat (48 + (c.toNat - 48)) = c := by
      rw [show 48 + (c.toNat - 48) = c.toNat by omega]; simp
    rw [valD_snoc]
    by_cases ht : t = []
    · subst ht
      have hne : c.toNat ≠ 48 := by
        intro e
        apply hh
        have : c = 48 := by rw [← UInt8.toNat_inj]; exact e
        rw [this]; rfl
      show decT (10 * 0 + _) = _ ∧ _
      unfold decT
      rw [dif_pos (by omega)]
      refine ⟨?_, by show 1 ≤ 10 * 0 + _; omega⟩
      rw [show 48 + (10 * 0 + (c.toNat - 48)) = 48 + (c.toNat - 48) by omega, hcc]; rfl
    · obtain ⟨i1, i2⟩ := decT_val k t (by rw [List.length_append, List.length_singleton] at hk; omega) ht (fun x hx => hd x (List.mem_append_left _ hx)) (by
        cases t with
        | nil => exact absurd rfl ht
        | cons x r => simpa using hh)
      unfold decT
      rw [dif_neg (by omega)]
      refine ⟨?_, by omega⟩
      rw [show (10 * valD t + (c.toNat - 48)) / 10 = valD t by omega, show (10 * valD t + (c.toNat - 48)) % 10 = c.toNat - 48 by omega, i1, hcc]
end Go.Proofs.YtcpkkaimingnlaaGreatDoor
