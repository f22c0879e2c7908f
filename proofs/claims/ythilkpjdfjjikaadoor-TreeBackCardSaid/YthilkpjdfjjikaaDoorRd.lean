/-
  The reference's reading of one code point, as a plain function; and its walk.
-/
import Derived.Test.YthilkpjdfjjikaaDoorChecked
import Derived.Test.YthilkpjdfjjikaaDoorKit
set_option linter.unusedVariables false
set_option linter.unusedSimpArgs false
namespace Go.Proofs.YthilkpjdfjjikaaDoor
open Go.RowKit

def isPt (p : Int) : Bool := decide (0 ≤ p) && decide (p ≤ 1114111) && (decide (p < 55296) || decide (57343 < p))

theorem is_any (p : Int) (w : World) : Calls Tryd.prog 52 #[.int .i64 p] w fun e w' => e = .returned (.bool (isPt p)) ∧ w' = w := by
  by_cases h0 : 0 ≤ p
  · by_cases h1 : p ≤ 1114111
    · by_cases h2 : p < 55296
      · go_enter Tryd.func52, Tryd.ntmps52
        go_wp2_with fail
        go_ret
        simp [isPt, h0, h1, h2]
      · by_cases h3 : p > 57343
        · go_enter Tryd.func52, Tryd.ntmps52
          go_wp2_with fail
          go_ret
          simp [isPt, h0, h1, h3]
        · go_enter Tryd.func52, Tryd.ntmps52
          go_wp2_with fail
          go_ret
          simp [isPt]; omega
    · go_enter Tryd.func52, Tryd.ntmps52
      go_wp2_with fail
      go_ret
      simp [isPt]; omega
  · go_enter Tryd.func52, Tryd.ntmps52
    go_wp2_with fail
    go_ret
    simp [isPt]; omega

theorem str_index (l : List UInt8) (i : Nat) (h : i < l.length) (w : World) : (Instr.index 9 (.string ⟨l.toArray⟩) (.int .i64 (i : Int))).run Tryd.prog w = .ok (.int .u8 ((l.getD i 0).toNat : Nat)) w := by
  rw [run_index_string _ _ _ _ _ Tryd.underlying9]
  have hs : (⟨l.toArray⟩ : ByteArray).size = l.length := by simp [ByteArray.size]
  rw [dif_pos ⟨by omega, by rw [hs]; omega⟩]
  have e : ((⟨l.toArray⟩ : ByteArray)[(i : Int).toNat]'(by rw [hs]; omega)) = l.getD i 0 := by
    show l.toArray[(i : Int).toNat]'_ = _
    simp [h]
  rw [e]

/-- k more bytes of a code point. -/
def contN : Nat → List UInt8 → Int → Option Int
  | 0, _, b => some b
  | _ + 1, [], _ => none
  | k + 1, c :: r, b => if c.toNat < 128 ∨ 192 ≤ c.toNat then none else contN k r (64 * b + (c.toNat : Nat) - 128)
/-- What a first byte says: how many bytes, the least number, the number's beginning. -/
def hdB (b : Nat) : Option (Nat × Nat × Nat) :=
  if 194 ≤ b ∧ b < 224 then some (2, 128, b - 192) else if 224 ≤ b ∧ b < 240 then some (3, 2048, b - 224) else if 240 ≤ b ∧ b < 245 then some (4, 65536, b - 240) else none
def readL : List UInt8 → Int × Nat
  | [] => (-1, 1)
  | x :: r =>
    if x.toNat < 128 then ((x.toNat : Nat), 1) else
    match hdB x.toNat with
    | none => (-1, 1)
    | some (n, least, b) =>
      if r.length + 1 < n then (-1, 1) else
      match contN (n - 1) r b with
      | none => (-1, 1)
      | some p => if p < least ∨ isPt p = false then (-1, 1) else (p, n)
theorem hdB_some {b n least c : Nat} (h : hdB b = some (n, least, c)) :
    (194 ≤ b ∧ b < 224 ∧ n = 2 ∧ least = 128 ∧ c = b - 192) ∨ (224 ≤ b ∧ b < 240 ∧ n = 3 ∧ least = 2048 ∧ c = b - 224) ∨ (240 ≤ b ∧ b < 245 ∧ n = 4 ∧ least = 65536 ∧ c = b - 240) := by
  unfold hdB at h
  split at h
  · simp at h; omega
  · split at h
    · simp at h; omega
    · split at h
      · simp at h; omega
      · cases h
theorem hdB_none {b : Nat} (h : hdB b = none) : ¬ (194 ≤ b ∧ b < 224) ∧ ¬ (224 ≤ b ∧ b < 240) ∧ ¬ (240 ≤ b ∧ b < 245) := by
  unfold hdB at h
  split at h
  · cases h
  · split at h
    · cases h
    · split at h
      · cases h
      · omega

set_option maxHeartbeats 4000000 in
set_option maxRecDepth 100000 in
theorem read_any (x : UInt8) (r : List UInt8) (w : World) (hl : r.length < 1000000) : Calls Tryd.prog 31 #[.string ⟨(x :: r).toArray⟩] w fun e w' => e = .returned (.tuple #[.int .i64 (readL (x :: r)).1, .int .i64 (((readL (x :: r)).2 : Nat) : Int)]) ∧ w' = w := by
  have hx := x.toNat_lt
  obtain ⟨S, hS⟩ : ∃ S, S = (⟨(x :: r).toArray⟩ : ByteArray) := ⟨_, rfl⟩
  have hsz : S.size = r.length + 1 := by rw [hS]; simp [ByteArray.size]
  have hs0 : ∀ h, (S[0]'h).toNat = x.toNat := by subst hS; intro h; rfl
  have hsk : Hid (∀ k : Nat, k < r.length → ∀ h, (S[k + 1]'h).toNat = (r.getD k 0).toNat) := by
    subst hS
    intro k hk h
    have h' : k + 1 < (x :: r).toArray.size := h
    show ((x :: r).toArray[k + 1]'h').toNat = _
    simp [hk]
  rw [← hS]
  clear hS
  by_cases h128 : x.toNat < 128
  · have e : readL (x :: r) = (((x.toNat : Nat) : Int), 1) := by simp [readL, h128]
    rw [e]
    generalize x.toNat = b at *
    go_enter Tryd.func31, Tryd.ntmps31
    go_wp2_with fail
    go_ret2
    exact ⟨rfl, rfl⟩
  · cases hh : hdB x.toNat with
    | none =>
      have e : readL (x :: r) = (-1, 1) := by simp only [readL]; rw [if_neg h128, hh]
      rw [e]
      obtain ⟨q1, q2, q3⟩ := hdB_none hh
      generalize x.toNat = b at *
      have t0 : decide ((b : Int) < 128) = false := by rw [decide_eq_false_iff_not]; omega
      by_cases c1 : b < 194
      · go_enter Tryd.func31, Tryd.ntmps31
        go_wp2_with fail
        go_ret2
        exact ⟨rfl, rfl⟩
      · have c2 : 245 ≤ b := by omega
        go_enter Tryd.func31, Tryd.ntmps31
        go_wp2_with fail
        go_ret2
        exact ⟨rfl, rfl⟩
    | some v =>
      obtain ⟨n, least, b0⟩ := v
      have e0 : readL (x :: r) = (if r.length + 1 < n then (-1, 1) else match contN (n - 1) r b0 with | none => (-1, 1) | some p => if p < least ∨ isPt p = false then (-1, 1) else (p, n)) := by
        simp only [readL]; rw [if_neg h128, hh]
      rw [e0]
      have t0 : decide (((x.toNat : Nat) : Int) < 128) = false := by rw [decide_eq_false_iff_not]; omega
      rcases hdB_some hh with ⟨q1, q2, rfl, rfl, rfl⟩ | ⟨q1, q2, rfl, rfl, rfl⟩ | ⟨q1, q2, rfl, rfl, rfl⟩
      · clear hh e0
        generalize x.toNat = b at *
        by_cases hlen : r.length + 1 < 2
        · rw [if_pos hlen]
          go_enter Tryd.func31, Tryd.ntmps31
          go_wp2_with fail
          go_ret2
          exact ⟨rfl, rfl⟩
        · rw [if_neg hlen]
          obtain ⟨R, hR⟩ : ∃ R : Int × Nat, R = (match contN (2 - 1) r ((b - 192 : Nat) : Int) with | none => (-1, 1) | some p => if p < ((128 : Nat) : Int) ∨ isPt p = false then (-1, 1) else (p, 2)) := ⟨_, rfl⟩
          rw [← hR]
          have HR := Lib.hid hR; clear hR
          go_enter Tryd.func31, Tryd.ntmps31
          go_wp2_with fail
          go_loopw [4, 7] (fun v i wr => ∃ k : Nat, ∃ val : Int, k ≤ 2 - 1 ∧ i = .int .i64 ((k : Int) + 1) ∧ v = .int .i64 val ∧ contN (2 - 1) r ((b - 192 : Nat) : Int) = contN (2 - 1 - k) (r.drop k) val ∧ 0 ≤ val ∧ val < 32 * 64 ^ k ∧ wr = w)
            (fun _ i _ => (2 - intOf i).toNat)
          case atStart => exact ⟨0, (b : Int) - 192, by omega, rfl, rfl, by rw [show ((b - 192 : Nat) : Int) = (b : Int) - 192 by omega]; rfl, by omega, by omega, rfl⟩
          case round =>
            obtain ⟨k, val, hk, rfl, rfl, hc, hv0, hv1, rfl⟩ := hrel
            have Hc := Lib.hid hc; clear hc
            by_cases hkN : k < 2 - 1
            · have hkr : k < r.length := by omega
              have hdrop : r.drop k = r.getD k 0 :: r.drop (k + 1) := by rw [List.drop_eq_getElem_cons hkr]; simp [hkr]
              have hsc := hsk.out k hkr
              have hc256 := (r.getD k 0).toNat_lt
              have hc2 := Hc.out
              rw [hdrop, show 2 - 1 - k = (2 - 1 - (k + 1)) + 1 by omega, contN] at hc2
              clear hdrop Hc hkr hsk
              generalize (r.getD k 0).toNat = c at *
              have Hc2 := Lib.hid hc2; clear hc2
              have hP : (64 : Int) ^ k ≤ 4096 := by rcases k with _ | _ | _ | k <;> first | decide | omega
              have hP2 : (64 : Int) ^ (k + 1) = 64 ^ k * 64 := Int.pow_succ _ _
              have HP2 := Lib.hid hP2; clear hP2
              generalize (64 : Int) ^ k = P at *
              by_cases hb1 : c < 128
              · have hr : R = (-1, 1) := by rw [HR.out, Hc2.out, if_pos (.inl hb1)]
                have Hr := Lib.hid hr; clear hr
                go_wp2_with fail
                go_ret2
                rw [Hr.out]; exact ⟨rfl, rfl⟩
              · by_cases hb2 : 192 ≤ c
                · have hr : R = (-1, 1) := by rw [HR.out, Hc2.out, if_pos (.inr hb2)]
                  have Hr := Lib.hid hr; clear hr
                  have tb : decide ((c : Int) < 128) = false := by rw [decide_eq_false_iff_not]; omega
                  have tc : decide ((c : Int) ≥ 192) = true := by rw [decide_eq_true_eq]; omega
                  go_wp2_with fail
                  go_ret2
                  rw [Hr.out]; exact ⟨rfl, rfl⟩
                · have tb : decide ((c : Int) < 128) = false := by rw [decide_eq_false_iff_not]; omega
                  have tc : decide ((c : Int) ≥ 192) = false := by rw [decide_eq_false_iff_not]; omega
                  have hfin := Hc2.out
                  rw [if_neg (by omega)] at hfin
                  have Hfin := Lib.hid hfin; clear hfin Hc2
                  go_wp2_with fail
                  go_roundw
                  case rel => exact ⟨k + 1, 64 * val + (c : Int) - 128, by omega, by go_num, rfl, Hfin.out, by omega, by rw [HP2.out]; omega, by simp⟩
                  case measure => simp [intOf]; omega
            · have hk1 : k = 2 - 1 := by omega
              have hc2 := Hc.out
              rw [show 2 - 1 - k = 0 by omega] at hc2
              have hR1 := HR.out
              rw [hc2] at hR1
              simp only [contN] at hR1
              clear hc2 Hc HR hsk
              have hP : (64 : Int) ^ k ≤ 262144 := by rcases k with _ | _ | _ | _ | k <;> first | decide | omega
              generalize (64 : Int) ^ k = P at *
              have HR1 := Lib.hid hR1; clear hR1
              by_cases hv : val < 128
              · have hr : R = (-1, 1) := by rw [HR1.out]; exact if_pos (.inl hv)
                have Hr := Lib.hid hr; clear hr
                go_wp2_with fail
                go_ret2
                rw [Hr.out]; exact ⟨rfl, rfl⟩
              · have tv : decide (val < 128) = false := by rw [decide_eq_false_iff_not]; exact hv
                cases hq : isPt val with
                | false =>
                  have hr : R = (-1, 1) := by rw [HR1.out]; exact if_pos (.inr hq)
                  have Hr := Lib.hid hr; have Hq := Lib.hid hq; clear hr hq
                  go_wp2_with (go_at_call 52; refine (is_any _ _).mono ?_; rintro e w' ⟨rfl, rfl⟩; rw [Hq.out])
                  go_ret2
                  rw [Hr.out]; exact ⟨rfl, rfl⟩
                | true =>
                  have hr : R = (val, 2) := by rw [HR1.out]; exact if_neg (by rw [hq]; simp only [Bool.true_eq_false, or_false]; exact hv)
                  have Hr := Lib.hid hr; have Hq := Lib.hid hq; clear hr hq
                  go_wp2_with (go_at_call 52; refine (is_any _ _).mono ?_; rintro e w' ⟨rfl, rfl⟩; rw [Hq.out])
                  go_ret2
                  rw [Hr.out]; exact ⟨rfl, rfl⟩
      · clear hh e0
        generalize x.toNat = b at *
        by_cases hlen : r.length + 1 < 3
        · rw [if_pos hlen]
          go_enter Tryd.func31, Tryd.ntmps31
          go_wp2_with fail
          go_ret2
          exact ⟨rfl, rfl⟩
        · rw [if_neg hlen]
          obtain ⟨R, hR⟩ : ∃ R : Int × Nat, R = (match contN (3 - 1) r ((b - 224 : Nat) : Int) with | none => (-1, 1) | some p => if p < ((2048 : Nat) : Int) ∨ isPt p = false then (-1, 1) else (p, 3)) := ⟨_, rfl⟩
          rw [← hR]
          have HR := Lib.hid hR; clear hR
          go_enter Tryd.func31, Tryd.ntmps31
          go_wp2_with fail
          go_loopw [4, 7] (fun v i wr => ∃ k : Nat, ∃ val : Int, k ≤ 3 - 1 ∧ i = .int .i64 ((k : Int) + 1) ∧ v = .int .i64 val ∧ contN (3 - 1) r ((b - 224 : Nat) : Int) = contN (3 - 1 - k) (r.drop k) val ∧ 0 ≤ val ∧ val < 32 * 64 ^ k ∧ wr = w)
            (fun _ i _ => (3 - intOf i).toNat)
          case atStart => exact ⟨0, (b : Int) - 224, by omega, rfl, rfl, by rw [show ((b - 224 : Nat) : Int) = (b : Int) - 224 by omega]; rfl, by omega, by omega, rfl⟩
          case round =>
            obtain ⟨k, val, hk, rfl, rfl, hc, hv0, hv1, rfl⟩ := hrel
            have Hc := Lib.hid hc; clear hc
            by_cases hkN : k < 3 - 1
            · have hkr : k < r.length := by omega
              have hdrop : r.drop k = r.getD k 0 :: r.drop (k + 1) := by rw [List.drop_eq_getElem_cons hkr]; simp [hkr]
              have hsc := hsk.out k hkr
              have hc256 := (r.getD k 0).toNat_lt
              have hc2 := Hc.out
              rw [hdrop, show 3 - 1 - k = (3 - 1 - (k + 1)) + 1 by omega, contN] at hc2
              clear hdrop Hc hkr hsk
              generalize (r.getD k 0).toNat = c at *
              have Hc2 := Lib.hid hc2; clear hc2
              have hP : (64 : Int) ^ k ≤ 4096 := by rcases k with _ | _ | _ | k <;> first | decide | omega
              have hP2 : (64 : Int) ^ (k + 1) = 64 ^ k * 64 := Int.pow_succ _ _
              have HP2 := Lib.hid hP2; clear hP2
              generalize (64 : Int) ^ k = P at *
              by_cases hb1 : c < 128
              · have hr : R = (-1, 1) := by rw [HR.out, Hc2.out, if_pos (.inl hb1)]
                have Hr := Lib.hid hr; clear hr
                go_wp2_with fail
                go_ret2
                rw [Hr.out]; exact ⟨rfl, rfl⟩
              · by_cases hb2 : 192 ≤ c
                · have hr : R = (-1, 1) := by rw [HR.out, Hc2.out, if_pos (.inr hb2)]
                  have Hr := Lib.hid hr; clear hr
                  have tb : decide ((c : Int) < 128) = false := by rw [decide_eq_false_iff_not]; omega
                  have tc : decide ((c : Int) ≥ 192) = true := by rw [decide_eq_true_eq]; omega
                  go_wp2_with fail
                  go_ret2
                  rw [Hr.out]; exact ⟨rfl, rfl⟩
                · have tb : decide ((c : Int) < 128) = false := by rw [decide_eq_false_iff_not]; omega
                  have tc : decide ((c : Int) ≥ 192) = false := by rw [decide_eq_false_iff_not]; omega
                  have hfin := Hc2.out
                  rw [if_neg (by omega)] at hfin
                  have Hfin := Lib.hid hfin; clear hfin Hc2
                  go_wp2_with fail
                  go_roundw
                  case rel => exact ⟨k + 1, 64 * val + (c : Int) - 128, by omega, by go_num, rfl, Hfin.out, by omega, by rw [HP2.out]; omega, by simp⟩
                  case measure => simp [intOf]; omega
            · have hk1 : k = 3 - 1 := by omega
              have hc2 := Hc.out
              rw [show 3 - 1 - k = 0 by omega] at hc2
              have hR1 := HR.out
              rw [hc2] at hR1
              simp only [contN] at hR1
              clear hc2 Hc HR hsk
              have hP : (64 : Int) ^ k ≤ 262144 := by rcases k with _ | _ | _ | _ | k <;> first | decide | omega
              generalize (64 : Int) ^ k = P at *
              have HR1 := Lib.hid hR1; clear hR1
              by_cases hv : val < 2048
              · have hr : R = (-1, 1) := by rw [HR1.out]; exact if_pos (.inl hv)
                have Hr := Lib.hid hr; clear hr
                go_wp2_with fail
                go_ret2
                rw [Hr.out]; exact ⟨rfl, rfl⟩
              · have tv : decide (val < 2048) = false := by rw [decide_eq_false_iff_not]; exact hv
                cases hq : isPt val with
                | false =>
                  have hr : R = (-1, 1) := by rw [HR1.out]; exact if_pos (.inr hq)
                  have Hr := Lib.hid hr; have Hq := Lib.hid hq; clear hr hq
                  go_wp2_with (go_at_call 52; refine (is_any _ _).mono ?_; rintro e w' ⟨rfl, rfl⟩; rw [Hq.out])
                  go_ret2
                  rw [Hr.out]; exact ⟨rfl, rfl⟩
                | true =>
                  have hr : R = (val, 3) := by rw [HR1.out]; exact if_neg (by rw [hq]; simp only [Bool.true_eq_false, or_false]; exact hv)
                  have Hr := Lib.hid hr; have Hq := Lib.hid hq; clear hr hq
                  go_wp2_with (go_at_call 52; refine (is_any _ _).mono ?_; rintro e w' ⟨rfl, rfl⟩; rw [Hq.out])
                  go_ret2
                  rw [Hr.out]; exact ⟨rfl, rfl⟩
      · clear hh e0
        generalize x.toNat = b at *
        by_cases hlen : r.length + 1 < 4
        · rw [if_pos hlen]
          go_enter Tryd.func31, Tryd.ntmps31
          go_wp2_with fail
          go_ret2
          exact ⟨rfl, rfl⟩
        · rw [if_neg hlen]
          obtain ⟨R, hR⟩ : ∃ R : Int × Nat, R = (match contN (4 - 1) r ((b - 240 : Nat) : Int) with | none => (-1, 1) | some p => if p < ((65536 : Nat) : Int) ∨ isPt p = false then (-1, 1) else (p, 4)) := ⟨_, rfl⟩
          rw [← hR]
          have HR := Lib.hid hR; clear hR
          go_enter Tryd.func31, Tryd.ntmps31
          go_wp2_with fail
          go_loopw [4, 7] (fun v i wr => ∃ k : Nat, ∃ val : Int, k ≤ 4 - 1 ∧ i = .int .i64 ((k : Int) + 1) ∧ v = .int .i64 val ∧ contN (4 - 1) r ((b - 240 : Nat) : Int) = contN (4 - 1 - k) (r.drop k) val ∧ 0 ≤ val ∧ val < 32 * 64 ^ k ∧ wr = w)
            (fun _ i _ => (4 - intOf i).toNat)
          case atStart => exact ⟨0, (b : Int) - 240, by omega, rfl, rfl, by rw [show ((b - 240 : Nat) : Int) = (b : Int) - 240 by omega]; rfl, by omega, by omega, rfl⟩
          case round =>
            obtain ⟨k, val, hk, rfl, rfl, hc, hv0, hv1, rfl⟩ := hrel
            have Hc := Lib.hid hc; clear hc
            by_cases hkN : k < 4 - 1
            · have hkr : k < r.length := by omega
              have hdrop : r.drop k = r.getD k 0 :: r.drop (k + 1) := by rw [List.drop_eq_getElem_cons hkr]; simp [hkr]
              have hsc := hsk.out k hkr
              have hc256 := (r.getD k 0).toNat_lt
              have hc2 := Hc.out
              rw [hdrop, show 4 - 1 - k = (4 - 1 - (k + 1)) + 1 by omega, contN] at hc2
              clear hdrop Hc hkr hsk
              generalize (r.getD k 0).toNat = c at *
              have Hc2 := Lib.hid hc2; clear hc2
              have hP : (64 : Int) ^ k ≤ 4096 := by rcases k with _ | _ | _ | k <;> first | decide | omega
              have hP2 : (64 : Int) ^ (k + 1) = 64 ^ k * 64 := Int.pow_succ _ _
              have HP2 := Lib.hid hP2; clear hP2
              generalize (64 : Int) ^ k = P at *
              by_cases hb1 : c < 128
              · have hr : R = (-1, 1) := by rw [HR.out, Hc2.out, if_pos (.inl hb1)]
                have Hr := Lib.hid hr; clear hr
                go_wp2_with fail
                go_ret2
                rw [Hr.out]; exact ⟨rfl, rfl⟩
              · by_cases hb2 : 192 ≤ c
                · have hr : R = (-1, 1) := by rw [HR.out, Hc2.out, if_pos (.inr hb2)]
                  have Hr := Lib.hid hr; clear hr
                  have tb : decide ((c : Int) < 128) = false := by rw [decide_eq_false_iff_not]; omega
                  have tc : decide ((c : Int) ≥ 192) = true := by rw [decide_eq_true_eq]; omega
                  go_wp2_with fail
                  go_ret2
                  rw [Hr.out]; exact ⟨rfl, rfl⟩
                · have tb : decide ((c : Int) < 128) = false := by rw [decide_eq_false_iff_not]; omega
                  have tc : decide ((c : Int) ≥ 192) = false := by rw [decide_eq_false_iff_not]; omega
                  have hfin := Hc2.out
                  rw [if_neg (by omega)] at hfin
                  have Hfin := Lib.hid hfin; clear hfin Hc2
                  go_wp2_with fail
                  go_roundw
                  case rel => exact ⟨k + 1, 64 * val + (c : Int) - 128, by omega, by go_num, rfl, Hfin.out, by omega, by rw [HP2.out]; omega, by simp⟩
                  case measure => simp [intOf]; omega
            · have hk1 : k = 4 - 1 := by omega
              have hc2 := Hc.out
              rw [show 4 - 1 - k = 0 by omega] at hc2
              have hR1 := HR.out
              rw [hc2] at hR1
              simp only [contN] at hR1
              clear hc2 Hc HR hsk
              have hP : (64 : Int) ^ k ≤ 262144 := by rcases k with _ | _ | _ | _ | k <;> first | decide | omega
              generalize (64 : Int) ^ k = P at *
              have HR1 := Lib.hid hR1; clear hR1
              by_cases hv : val < 65536
              · have hr : R = (-1, 1) := by rw [HR1.out]; exact if_pos (.inl hv)
                have Hr := Lib.hid hr; clear hr
                go_wp2_with fail
                go_ret2
                rw [Hr.out]; exact ⟨rfl, rfl⟩
              · have tv : decide (val < 65536) = false := by rw [decide_eq_false_iff_not]; exact hv
                cases hq : isPt val with
                | false =>
                  have hr : R = (-1, 1) := by rw [HR1.out]; exact if_pos (.inr hq)
                  have Hr := Lib.hid hr; have Hq := Lib.hid hq; clear hr hq
                  go_wp2_with (go_at_call 52; refine (is_any _ _).mono ?_; rintro e w' ⟨rfl, rfl⟩; rw [Hq.out])
                  go_ret2
                  rw [Hr.out]; exact ⟨rfl, rfl⟩
                | true =>
                  have hr : R = (val, 4) := by rw [HR1.out]; exact if_neg (by rw [hq]; simp only [Bool.true_eq_false, or_false]; exact hv)
                  have Hr := Lib.hid hr; have Hq := Lib.hid hq; clear hr hq
                  go_wp2_with (go_at_call 52; refine (is_any _ _).mono ?_; rintro e w' ⟨rfl, rfl⟩; rw [Hq.out])
                  go_ret2
                  rw [Hr.out]; exact ⟨rfl, rfl⟩
end Go.Proofs.YthilkpjdfjjikaaDoor
