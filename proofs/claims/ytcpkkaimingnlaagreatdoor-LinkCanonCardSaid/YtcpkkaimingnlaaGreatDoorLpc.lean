/-
  The document's Percent.
-/
import Derived.Test.YtcpkkaimingnlaaGreatDoorMI
import Derived.Deep.RegionHeld3
set_option linter.unusedVariables false
set_option linter.unusedSimpArgs false
namespace Go.Proofs.YtcpkkaimingnlaaGreatDoor
open Go.RowKit

/-- Percents of a text. -/
def pctA (s : Bs) : Bs := s.flatMap pctR
theorem pctA_snoc (s : Bs) (j : Nat) (hj : j < s.length) : pctA (s.take (j + 1)) = pctA (s.take j) ++ pctR (s.getD j 0) := by
  unfold pctA
  rw [List.take_succ_eq_append_getElem hj, List.flatMap_append]
  simp [hj]
theorem str_cut8 (l : Bs) (a b : Nat) (h : a ≤ b) (hb : b ≤ l.length) (w : World) : (Instr.slice 9 (.string (bs l)) (some (.int .u8 (a : Int))) (some (.int .u8 (b : Int))) none).run Tryz.prog w = .ok (.string (bs ((l.take b).drop a))) w := by
  have hs : (bs l).size = l.length := bs_size l
  rw [run_slice_string_if w 9 _ .u8 .u8 _ _ Tryz.underlying9]
  rw [if_pos ⟨by omega, by rw [hs]; omega⟩, if_pos (by omega)]
  congr 2
  apply ByteArray.ext
  rw [ByteArray.data_extract]
  apply Array.ext'
  simp only [bs, Array.toList_extract, List.extract_eq_take_drop]
  rw [Int.toNat_natCast, Int.toNat_natCast, List.drop_take]
theorem hx_cut (i : Nat) (h : i < 16) (w : World) : (Instr.slice 9 (.string ⟨#[48, 49, 50, 51, 52, 53, 54, 55, 56, 57, 65, 66, 67, 68, 69, 70]⟩) (some (.int .u8 ((i : Nat) : Int))) (some (.int .u8 (((i : Nat) : Int) + 1))) none).run Tryz.prog w = .ok (.string (bs [hxT.getD i 0])) w := by
  have hl : hxT.length = 16 := rfl
  refine (str_cut8 hxT i (i + 1) (by omega) (by omega) w).trans ?_
  rw [List.drop_take, show i + 1 - i = 1 by omega, List.drop_eq_getElem_cons (by omega), show hxT.getD i 0 = hxT[i]'(by omega) by simp [List.getD_eq_getElem?_getD, List.getElem?_eq_getElem (show i < hxT.length by omega)]]
  rfl
theorem pctA_len (s : Bs) : (pctA s).length ≤ 3 * s.length := by
  unfold pctA
  induction s with
  | nil => simp
  | cons c r ih =>
    rw [List.flatMap_cons, List.length_append, List.length_cons]
    have : (pctR c).length ≤ 3 := by
      unfold pctR
      split <;> simp
    omega
set_option maxHeartbeats 4000000 in
set_option maxRecDepth 100000 in
theorem percent_any (s : Bs) (w : World) (hl : s.length ≤ 1000000) : Calls Tryz.prog 93 #[.string (bs s)] w fun e w' => e = .returned (.string (bs (pctA s))) ∧ Below w.heap.size w w' := by
  have hz : (bs s).size = s.length := bs_size s
  have HX := Lib.hid (fun (i : Nat) (h : i < s.length) (W : World) => str_byte s i h W)
  go_enter Tryz.func93, Tryz.ntmps93
  go_wp2_with fail
  go_loopw [3, 4] (fun o i wr => ∃ j : Nat, i = .int .i64 (j : Int) ∧ j ≤ s.length ∧ o = .string (bs (pctA (s.take j))) ∧ Hid (Below w.heap.size w wr)) (fun _ i _ => s.length - (intOf i).toNat)
  case atStart => exact ⟨0, rfl, Nat.zero_le _, rfl, Lib.hid (Below.refl _ _)⟩
  case round =>
    obtain ⟨j, rfl, hj, rfl, HB⟩ := hrel
    by_cases hjn : j < s.length
    · have tj : decide ((j : Int) < (s.length : Int)) = true := by rw [decide_eq_true_eq]; omega
      have hx := fun W => HX.out j hjn W
      have hsn := pctA_snoc s j hjn
      have hpl := pctA_len (s.take j)
      have htl : (s.take j).length ≤ 1000000 := by rw [List.length_take]; omega
      have hct : ∀ W, (Instr.slice 9 (.string (bs s)) (some (.int .i64 (j : Int))) (some (.int .i64 ((j : Int) + 1))) none).run Tryz.prog W = .ok (.string (bs [s.getD j 0])) W := fun W => (str_cut s j (j + 1) (by omega) (by omega) W).trans (by
        rw [List.drop_take, show j + 1 - j = 1 by omega, List.drop_eq_getElem_cons hjn, show s.getD j 0 = s[j] by simp [hjn]]
        rfl)
      obtain ⟨c, hc⟩ : ∃ c, c = s.getD j 0 := ⟨_, rfl⟩
      rw [← hc] at hsn
      simp only [← hc] at hx hct
      have hcl := c.toNat_lt
      have hu := unres_iff c
      have HSN := Lib.hid hsn
      clear hc hsn
      have zo : (bs (pctA (s.take j))).size ≤ 3000000 := by rw [bs_size]; omega
      obtain ⟨O, hO⟩ : ∃ O, O = pctA (s.take j) := ⟨_, rfl⟩
      rw [← hO] at HSN zo ⊢
      clear hO hpl htl
      obtain ⟨n, hn⟩ : ∃ n, n = c.toNat := ⟨_, rfl⟩
      rw [← hn] at hx hcl hu
      obtain ⟨U, hU⟩ : ∃ U, U = unresB c := ⟨_, rfl⟩
      have HU := Lib.hid hU
      rw [← hU] at hu
      have HUI := Lib.hid hu
      clear hU hu
      have Hn := Lib.hid hn
      clear hn
      go_upto_region 6 with fail
      go_cut [53] (fun v wx => v = .bool U ∧ wx = wr)
      case first =>
        clear hx hct
        obtain ⟨x1, h1⟩ : ∃ x, x = ((n : Int) == 45) := ⟨_, rfl⟩
        obtain ⟨x2, h2⟩ : ∃ x, x = ((n : Int) == 46) := ⟨_, rfl⟩
        obtain ⟨x3, h3⟩ : ∃ x, x = ((n : Int) == 95) := ⟨_, rfl⟩
        obtain ⟨x4, h4⟩ : ∃ x, x = ((n : Int) == 126) := ⟨_, rfl⟩
        have g1 : ((n : Int) == 45) = x1 := h1.symm
        have g2 : ((n : Int) == 46) = x2 := h2.symm
        have g3 : ((n : Int) == 95) = x3 := h3.symm
        have g4 : ((n : Int) == 126) = x4 := h4.symm
        have H1 := Lib.hid h1; have H2 := Lib.hid h2; have H3 := Lib.hid h3; have H4 := Lib.hid h4
        clear h1 h2 h3 h4
        go_wp2_with fail
        all_goals go_meet
        all_goals refine ⟨congrArg Value.bool ?_, rfl⟩
        all_goals have h1 := H1.out
        all_goals have h2 := H2.out
        all_goals have h3 := H3.out
        all_goals have h4 := H4.out
        all_goals clear g1 g2 g3 g4
        all_goals rw [Bool.eq_iff_iff, HUI.out]
        all_goals (try subst h1); (try subst h2); (try subst h3); (try subst h4)
        all_goals simp at *
        all_goals omega
      case rest =>
        obtain ⟨rfl, rfl⟩ := hcut
        cases U with
        | true =>
          have hp : pctR c = [c] := by unfold pctR; rw [if_pos HU.out.symm]
          have HS2 := Lib.hid (show bs (pctA (s.take (j + 1))) = bs O ++ bs [c] by rw [HSN.out, hp, bs_cat])
          have z1 : (bs [c]).size = 1 := bs_size [c]
          clear hp HSN HU HUI
          go_wp2_with fail
          exact ⟨⟨j + 1, by go_num, by omega, by rw [HS2.out], HB⟩, by simp [intOf]; omega⟩
        | false =>
          have hp : pctR c = [37] ++ [hxT.getD (n / 16) 0] ++ [hxT.getD (n % 16) 0] := by unfold pctR; rw [if_neg (by rw [← HU.out]; decide), Hn.out]; rfl
          have HS2 := Lib.hid (show bs (pctA (s.take (j + 1))) = bs O ++ (bs [37] ++ bs [hxT.getD (n / 16) 0] ++ bs [hxT.getD (n % 16) 0]) by rw [HSN.out, hp, bs_cat, bs_cat, bs_cat])
          have hc1 := fun W => hx_cut (n / 16) (by omega) W
          have hc2 := fun W => hx_cut (n % 16) (by omega) W
          have q1 : ((n / 16 : Nat) : Int) = (n : Int) / 16 := by omega
          have q2 : ((n % 16 : Nat) : Int) = (n : Int) % 16 := by omega
          have z1 : (bs [hxT.getD (n / 16) 0]).size = 1 := bs_size _
          have z2 : (bs [hxT.getD (n % 16) 0]).size = 1 := bs_size _
          generalize [hxT.getD (n / 16) 0] = A1 at *
          generalize [hxT.getD (n % 16) 0] = A2 at *
          rw [q1] at hc1
          rw [q2] at hc2
          have v1 : IntKind.u8.wrap ((n : Int) / 16) = (n : Int) / 16 := by rw [IntKind.wrap_u8]; omega
          have v2 : IntKind.u8.wrap ((n : Int) / 16 + 1) = (n : Int) / 16 + 1 := by rw [IntKind.wrap_u8]; omega
          have v3 : IntKind.u8.wrap ((n : Int) % 16) = (n : Int) % 16 := by rw [IntKind.wrap_u8]; omega
          have v4 : IntKind.u8.wrap ((n : Int) % 16 + 1) = (n : Int) % 16 + 1 := by rw [IntKind.wrap_u8]; omega
          have z3 : ¬ 9223372036854775807 < (bs O).size + (1 + 1 + 1) := by omega
          clear hp HSN HU HUI hx hct q1 q2
          go_wp2_with fail
          go_quiet (fail)
          go_wp2_with fail
          exact ⟨⟨j + 1, by go_num, by omega, by rw [HS2.out]; rfl, Lib.hid (below_drewN HB.out _)⟩, by simp [intOf]; omega⟩
    · obtain rfl : j = s.length := by omega
      have tj : decide ((s.length : Int) < (s.length : Int)) = false := by rw [decide_eq_false_iff_not]; omega
      rw [List.take_length]
      go_wp2_with fail
      go_ret
      exact ⟨rfl, HB.out⟩
end Go.Proofs.YtcpkkaimingnlaaGreatDoor
