/-
  The document's Split.
-/
import Derived.Test.YtcpkkaimingnlaaGreatDoorLdt
namespace Go.Proofs.YtcpkkaimingnlaaGreatDoor
open Go.RowKit

theorem seg_app (s : Bs) (at' j : Nat) (h1 : at' ≤ j) (h2 : j ≤ s.length) : s.drop at' = (s.take j).drop at' ++ s.drop j := by
  have h : s.drop at' = (s.take j ++ s.drop j).drop at' := by rw [List.take_append_drop]
  rw [h, List.drop_append_of_le_length (by rw [List.length_take]; omega)]
/-- Where the loop stands. -/
def SplitAt (P : List Bs) (c : UInt8) (s : Bs) (j at' : Nat) (O : List Bs) : Prop :=
  (j ≤ s.length → P = O ++ splitC c (s.drop at') ∧ ∀ x ∈ (s.take j).drop at', x ≠ c) ∧ (s.length < j → P = O)
theorem split_step_no {P O : List Bs} {c : UInt8} {s : Bs} {j at' : Nat} (h : SplitAt P c s j at' O) (hj : j < s.length) (ha : at' ≤ j) (hc : s.getD j 0 ≠ c) : SplitAt P c s (j + 1) at' O := by
  refine ⟨fun _ => ⟨(h.1 (by omega)).1, fun x hx => ?_⟩, fun h2 => by omega⟩
  rw [List.take_succ_eq_append_getElem hj, List.drop_append_of_le_length (by rw [List.length_take]; omega)] at hx
  rcases List.mem_append.1 hx with hx | hx
  · exact (h.1 (by omega)).2 x hx
  · rw [List.mem_singleton.1 hx]
    simpa [hj] using hc
theorem split_step_hit {P O : List Bs} {c : UInt8} {s : Bs} {j at' : Nat} (h : SplitAt P c s j at' O) (hj : j < s.length) (ha : at' ≤ j) (hc : s.getD j 0 = c) : SplitAt P c s (j + 1) (j + 1) (O ++ [(s.take j).drop at']) := by
  obtain ⟨h1, h2⟩ := h.1 (by omega)
  refine ⟨fun _ => ⟨?_, fun x hx => ?_⟩, fun h2 => by omega⟩
  · rw [h1, seg_app s at' j ha (by omega)]
    have hd : s.drop j = c :: s.drop (j + 1) := by
      rw [List.drop_eq_getElem_cons hj]
      congr 1
      simpa [hj] using hc
    rw [hd, split_app c _ _ h2]
    simp
  · rw [List.drop_of_length_le (by rw [List.length_take]; omega)] at hx
    cases hx
theorem split_step_end {P O : List Bs} {c : UInt8} {s : Bs} {at' : Nat} (h : SplitAt P c s s.length at' O) (a2 : Nat) : SplitAt P c s (s.length + 1) a2 (O ++ [(s.take s.length).drop at']) := by
  obtain ⟨h1, h2⟩ := h.1 (Nat.le_refl _)
  refine ⟨fun h => by omega, fun _ => ?_⟩
  rw [List.take_length] at h2 ⊢
  rw [h1, split_one c _ h2]
/-- A row of texts of the call's own comes back. -/
def RowPost (w : World) (l : List Bs) (e : Ending) (w' : World) : Prop := ∃ v, e = .returned v ∧ SOwn w' w.heap.size v l ∧ Below w.heap.size w w'
set_option maxHeartbeats 8000000 in
set_option maxRecDepth 100000 in
theorem rsplit_any (s : Bs) (c : UInt8) (w : World) (hl : s.length ≤ 4000000) :
    Calls Tryz.prog 60 #[.string (bs s), .int .u8 ((c.toNat : Nat) : Int)] w (RowPost w (splitC c s)) := by
  have hz : (bs s).size = s.length := bs_size s
  have HX := Lib.hid (fun (i : Nat) (h : i < s.length) (w : World) => str_byte s i h w)
  have HC := Lib.hid (fun (a b : Nat) (h : a ≤ b) (hb : b ≤ s.length) (w : World) => str_cut s a b h hb w)
  obtain ⟨P, hP⟩ : ∃ P, P = splitC c s := ⟨_, rfl⟩
  rw [← hP]
  have h00 : SplitAt P c s 0 0 [] := ⟨fun _ => ⟨hP, fun x hx => by cases hx⟩, fun h => by omega⟩
  obtain ⟨S, hS⟩ : ∃ S, S = bs s := ⟨_, rfl⟩
  rw [← hS] at hz ⊢
  simp only [← hS] at HX HC
  obtain ⟨n, hn⟩ : ∃ n, n = s.length := ⟨_, rfl⟩
  rw [← hn] at hz hl
  have Hn := Lib.hid hn; have H00 := Lib.hid h00
  clear hS hn hP h00
  go_enter Tryz.func60, Tryz.ntmps60
  go_wp2_with fail
  go_loopw [5, 6, 7] (fun v a i wr => ∃ (j at' : Nat) (O : List Bs), i = .int .i64 (j : Int) ∧ a = .int .i64 (at' : Int) ∧ j ≤ n + 1 ∧ at' ≤ j ∧ O.length ≤ j ∧ Hid (SplitAt P c s j at' O) ∧ Hid (SOwn wr w.heap.size v O) ∧ Hid (Below w.heap.size w wr)) (fun _ _ i _ => n + 1 - (intOf i).toNat)
  case atStart => exact ⟨0, 0, [], rfl, rfl, Nat.zero_le _, Nat.le_refl _, Nat.le_refl _, H00, Lib.hid SOwn.nil, Lib.hid (Below.refl _ _)⟩
  case round =>
    obtain ⟨j, at', O, rfl, rfl, hj, hat, hO, HS, HO, HB⟩ := hrel
    have hBs := HB.out.size
    obtain ⟨A, cp, hv, hc, hcm, hAn⟩ := HO.out.form
    subst hv
    by_cases hjn : j ≤ n
    · have tj : decide ((j : Int) ≤ (n : Int)) = true := by rw [decide_eq_true_eq]; omega
      by_cases hje : j = n
      · have te : ((j : Int) == (n : Int)) = true := by rw [beq_iff_eq]; omega
        have hct := fun W => HC.out at' j hat (by rw [← Hn.out]; exact hjn) W
        have hst := split_step_end (by have := HS.out; rwa [show j = s.length by rw [hje]; exact Hn.out] at this) (j + 1)
        rw [← Hn.out, ← hje] at hst
        have HST := Lib.hid hst
        generalize (s.take j).drop at' = x at *
        have HJE := Lib.hid hje
        clear hst hje
        go_wp2_with (at_builtin; refine wpList_pushS rfl (.tmp 25) (.tmp 30) rfl w.heap.size hBs O _ (by rfl) HO.out x (by rfl) (by omega) ?_; intro A2 c2 w2 ho2 hb2; have HO2 := Lib.hid ho2; have HB2 := Lib.hid (HB.out.trans hb2); clear ho2 hb2)
        exact ⟨⟨j + 1, j + 1, O ++ [x], by go_num, by go_num, by have := HJE.out; omega, Nat.le_refl _, by rw [List.length_append]; exact Nat.succ_le_succ hO, HST, HO2, HB2⟩, by simp [intOf]; omega⟩
      · have te : ((j : Int) == (n : Int)) = false := by rw [beq_eq_false_iff_ne]; omega
        have hjl : j < s.length := by rw [← Hn.out]; omega
        have hx := fun W => HX.out j hjl W
        by_cases hcc : s.getD j 0 = c
        · have hct := fun W => HC.out at' j hat (by omega) W
          have HST := Lib.hid (split_step_hit HS.out hjl hat hcc)
          generalize (s.take j).drop at' = x at *
          rw [hcc] at hx
          clear hcc hjl
          generalize ((c.toNat : Nat) : Int) = y at *
          go_wp2_with (at_builtin; refine wpList_pushS rfl (.tmp 25) (.tmp 30) rfl w.heap.size hBs O _ (by rfl) HO.out x (by rfl) (by omega) ?_; intro A2 c2 w2 ho2 hb2; have HO2 := Lib.hid ho2; have HB2 := Lib.hid (HB.out.trans hb2); clear ho2 hb2)
          exact ⟨⟨j + 1, j + 1, O ++ [x], by go_num, by go_num, by omega, Nat.le_refl _, by rw [List.length_append]; exact Nat.succ_le_succ hO, HST, HO2, HB2⟩, by simp [intOf]; omega⟩
        · have HST := Lib.hid (split_step_no HS.out hjl hat hcc)
          have tc : ((((s.getD j 0).toNat : Nat) : Int) == ((c.toNat : Nat) : Int)) = false := by
            rw [beq_eq_false_iff_ne]
            intro h
            apply hcc
            rw [← UInt8.toNat_inj]
            omega
          generalize (((s.getD j 0).toNat : Nat) : Int) = y1 at *
          generalize ((c.toNat : Nat) : Int) = y at *
          clear hcc hjl
          go_wp2_with fail
          exact ⟨⟨j + 1, at', O, by go_num, rfl, by omega, by omega, by omega, HST, HO, HB⟩, by simp [intOf]; omega⟩
    · have tj : decide ((j : Int) ≤ (n : Int)) = false := by rw [decide_eq_false_iff_not]; omega
      have hPO : P = O := HS.out.2 (by rw [← Hn.out]; omega)
      subst hPO
      go_wp2_with fail
      go_ret
      exact ⟨_, rfl, HO.out, HB.out⟩
end Go.Proofs.YtcpkkaimingnlaaGreatDoor
