/-
  link.normal.
-/
import Derived.Test.YtcpkkaimingnlaaGreatDoorLbw
namespace Go.Proofs.YtcpkkaimingnlaaGreatDoor
open Go.RowKit

theorem upperB_up (c : UInt8) : Lib.upperB c = upB c := by
  unfold Lib.upperB Lib.isLowerB upB
  simp [UInt8.le_iff_toNat_le]
theorem hexB_ascii {c : UInt8} (h : hexB c = true) : c.toNat < 128 := by rw [hexB_iff] at h; omega
theorem upper_hex (a b : UInt8) (ha : hexB a = true) (hb : hexB b = true) (w : World) :
    Calls Tryz.prog 92 #[.string (bs [37, a, b])] w fun e w' => e = .returned (.string (bs [37, upB a, upB b])) ∧ Below w.heap.size w w' := by
  have e1 : (bs [37, a, b]).data.toList = [37, a, b] := by simp [bs]
  have := Tryz.strings_ToUpper_ascii (bs [37, a, b]) w (by rw [bs_size]; simp) (by
    intro j x hx
    rw [e1] at hx
    have := hexB_ascii ha
    have := hexB_ascii hb
    match j, hx with
    | 0, hx => cases hx; decide
    | 1, hx => cases hx; assumption
    | 2, hx => cases hx; assumption)
  rw [e1] at this
  have e2 : Lib.toUpperA [37, a, b] = [37, upB a, upB b] := by
    unfold Lib.toUpperA
    simp only [List.map_cons, List.map_nil, upperB_up]
    rfl
  rw [e2] at this
  exact this
def unres4 : Bs := [45, 46, 95, 126]
theorem unres_idx (c : UInt8) : unresB c = (alB c || decide (0 ≤ Lib.indexByte unres4 c)) := by
  rw [← Lib.contains_iff_indexByte]
  unfold unresB unres4
  simp only [List.contains_cons, List.contains_nil, Bool.or_false, Bool.or_assoc]
theorem hex2_form {r : Bs} (h : hex2 r = true) : ∃ a b t, r = a :: b :: t ∧ hexB a = true ∧ hexB b = true := by
  match r, h with
  | a :: b :: t, h =>
    rw [hex2_cons, Bool.and_eq_true] at h
    exact ⟨a, b, t, rfl, h.1, h.2⟩
theorem hexZ_yes {a b : UInt8} (t : Bs) (ha : hexB a = true) (hb : hexB b = true) : hexZ (a :: b :: t) = (((pctN a b).toNat : Nat) : Int) := by
  rw [pct_nat ha hb]
  show (if (hexB a && hexB b) = true then ((16 * hexV a + hexV b : Nat) : Int) else -1) = _
  rw [if_pos (by rw [ha, hb]; rfl)]
theorem hexZ_no {r : Bs} (h : hex2 r = false) : hexZ r = -1 := by
  match r, h with
  | [], _ => rfl
  | [a], _ => rfl
  | a :: b :: t, h =>
    rw [hex2_cons] at h
    show (if (hexB a && hexB b) = true then ((16 * hexV a + hexV b : Nat) : Int) else -1) = _
    rw [if_neg (by rw [h]; decide)]
set_option maxHeartbeats 8000000 in
set_option maxRecDepth 100000 in
theorem normal_any (s : Bs) (w : World) (hl : s.length ≤ 900000) :
    Calls Tryz.prog 61 #[.string (bs s)] w fun e w' => e = .returned (.string (bs (normP s))) ∧ Below w.heap.size w w' := by
  have hz : (bs s).size = s.length := bs_size s
  have HX := Lib.hid (fun (i : Nat) (h : i < s.length) (w : World) => str_byte s i h w)
  have HF := Lib.hid (fun (i : Nat) (h : i ≤ s.length) (w : World) => str_from s i h w)
  have HC := Lib.hid (fun (a b : Nat) (h : a ≤ b) (hb : b ≤ s.length) (w : World) => str_cut s a b h hb w)
  have H84 := Lib.hid (fun (i : Nat) (W : World) => hex_any (s.drop i) W (by rw [List.length_drop]; omega))
  obtain ⟨N, hN⟩ : ∃ N, N = normP s := ⟨_, rfl⟩
  rw [← hN]
  obtain ⟨S, hS⟩ : ∃ S, S = bs s := ⟨_, rfl⟩
  rw [← hS] at hz ⊢
  simp only [← hS] at HX HF HC
  obtain ⟨n, hn⟩ : ∃ n, n = s.length := ⟨_, rfl⟩
  rw [← hn] at hz hl
  have HN := Lib.hid hN; have Hn := Lib.hid hn
  clear hN hS hn
  have hB0 := Lib.hid (bld_new w)
  have hA := Lib.hid (below_one w (.cells #[.pointer none, .slice none 0 0] 98))
  go_enter Tryz.func61, Tryz.ntmps61
  go_wp2_with fail
  go_loopw [4] (fun i wr => ∃ (j : Nat) (O : Bs), i = .int .i64 (j : Int) ∧ j ≤ n ∧ O.length ≤ j ∧ Hid (N = O ++ normP (s.drop j)) ∧ Hid (Bld wr w.heap.size w.heap.size O) ∧ Hid (Below w.heap.size w wr)) (fun i _ => n - (intOf i).toNat)
  case atStart => exact ⟨0, [], rfl, Nat.zero_le _, Nat.le_refl _, Lib.hid HN.out, hB0, hA⟩
  case round =>
    obtain ⟨j, O, rfl, hj, hO, HNj, HBld, HB⟩ := hrel
    have hsz := HB.out.size
    by_cases hjn : j < n
    · have tj : decide ((j : Int) < (n : Int)) = true := by rw [decide_eq_true_eq]; omega
      have hjl : j < s.length := by rw [← Hn.out]; exact hjn
      have hx := fun W => HX.out j hjl W
      have hd : s.drop j = s.getD j 0 :: s.drop (j + 1) := by rw [List.drop_eq_getElem_cons hjl]; simp [hjl]
      obtain ⟨c, hc⟩ : ∃ c, c = s.getD j 0 := ⟨_, rfl⟩
      rw [← hc] at hd
      simp only [← hc] at hx
      have hmiss : ¬ (c = 37 ∧ hex2 (s.drop (j + 1)) = true) → N = (O ++ [c]) ++ normP (s.drop (j + 1)) := by
        intro h
        rw [HNj.out, hd, normP_miss c _ h]; simp
      have hwb := Lib.hid (fun W (h : Bld W w.heap.size w.heap.size O) (hs : w.heap.size ≤ W.heap.size) => writeByte_any w.heap.size w.heap.size O c W h (by omega) hs)
      by_cases h37 : c = 37
      · have t37 : (((c.toNat : Nat) : Int) == 37) = true := by rw [h37]; rfl
        cases hh : hex2 (s.drop (j + 1)) with
        | false =>
          have hN2 := Lib.hid (hmiss (by rw [hh]; simp))
          have hf := fun W => HF.out (j + 1) hjl W
          have h84 := Lib.hid (fun W => H84.out (j + 1) W)
          rw [hexZ_no hh] at h84
          generalize bs (s.drop (j + 1)) = T at *
          have hf : ∀ W, (Instr.slice 9 (.string S) (some (.int .i64 ((j : Int) + 1))) none none).run Tryz.prog W = .ok (.string T) W := hf
          obtain ⟨y, hy⟩ : ∃ y : Int, y = ((c.toNat : Nat) : Int) := ⟨_, rfl⟩
          rw [← hy] at t37
          simp only [← hy] at hx hwb
          clear hh h37 hc hd hmiss hjl hy
          go_wp2_with (first | (go_at_call 84; refine (h84.out _).mono ?_; rintro e w1 ⟨rfl, hb1⟩; have HB1 := Lib.hid (HBld.out.keep hb1); have HB2 := Lib.hid (HB.out.trans (hb1.mono hsz)); clear hb1) | (go_at_call 75; refine (hwb.out _ HB1.out HB2.out.size).mono ?_; rintro e w2 ⟨⟨v, rfl⟩, hb3, hb4⟩; have HB3 := Lib.hid hb3; have HB4 := Lib.hid (HB2.out.trans hb4); clear hb3 hb4))
          exact ⟨⟨j + 1, O ++ [c], by go_num, by omega, by simp; omega, hN2, HB3, HB4⟩, by simp [intOf]; omega⟩
        | true =>
          obtain ⟨a, b, t, hr, ha, hb⟩ := hex2_form hh
          have hlt3 : j + 3 ≤ n := by
            have := congrArg List.length hr
            rw [List.length_drop, ← Hn.out] at this
            simp only [List.length_cons] at this
            omega
          have htd : t = s.drop (j + 3) := by
            have := congrArg (List.drop 2) hr
            rw [List.drop_drop] at this
            rw [show j + 3 = j + 1 + 2 from rfl, this]; rfl
          have hN2 : N = (O ++ pctT a b) ++ normP (s.drop (j + 3)) := by
            rw [HNj.out, hd, hr, normP_cons, if_pos ⟨h37, by rw [← hr]; exact hh⟩, htd, List.append_assoc]
          have hcut : (s.take (j + 3)).drop j = [37, a, b] := by
            rw [List.drop_take, hd, hr, h37, show j + 3 - j = 3 by omega]; rfl
          have hf := fun W => HF.out (j + 1) hjl W
          have h84 := Lib.hid (fun W => H84.out (j + 1) W)
          have hct := fun W => HC.out j (j + 3) (by omega) (by rw [← Hn.out]; exact hlt3) W
          rw [hcut] at hct
          rw [hr, hexZ_yes t ha hb] at h84
          rw [hr] at hf
          have hun := unres_idx (pctN a b)
          have hlet := Lib.hid (fun W => letter_any (pctN a b) W)
          have h64 := fun W => Tryz.strings_IndexByte (bs unres4) (((pctN a b).toNat : Nat) : Int) W
          have e0 : (((pctN a b).toNat : Nat) : Int).toNat.toUInt8 = pctN a b := by simp
          have e9 : (bs unres4).data.toList = unres4 := by simp [bs]
          rw [e0, e9] at h64
          have hup := Lib.hid (fun W => upper_hex a b ha hb W)
          have hpt : pctT a b = if unresB (pctN a b) = true then [pctN a b] else [37, upB a, upB b] := rfl
          have hm8 := (pctN a b).toNat_lt
          generalize bs (a :: b :: t) = T at *
          have hf : ∀ W, (Instr.slice 9 (.string S) (some (.int .i64 ((j : Int) + 1))) none none).run Tryz.prog W = .ok (.string T) W := hf
          have hct : ∀ W, (Instr.slice 9 (.string S) (some (.int .i64 (j : Int))) (some (.int .i64 ((j : Int) + 3))) none).run Tryz.prog W = .ok (.string (bs [37, a, b])) W := hct
          have hwm := Lib.hid (fun W (h : Bld W w.heap.size w.heap.size O) (hs : w.heap.size ≤ W.heap.size) => writeByte_any w.heap.size w.heap.size O (pctN a b) W h (by omega) hs)
          have hws := Lib.hid (fun W (h : Bld W w.heap.size w.heap.size O) (hs : w.heap.size ≤ W.heap.size) => writeStr_any w.heap.size w.heap.size O [37, upB a, upB b] W h (by simp; omega) hs)
          generalize bs [37, a, b] = T3 at *
          generalize bs [37, upB a, upB b] = T4 at *
          generalize pctN a b = m at *
          obtain ⟨y, hy⟩ : ∃ y : Int, y = ((c.toNat : Nat) : Int) := ⟨_, rfl⟩
          rw [← hy] at t37
          simp only [← hy] at hx
          unfold u8v at hlet
          obtain ⟨z, hz2⟩ : ∃ z : Int, z = ((m.toNat : Nat) : Int) := ⟨_, rfl⟩
          have z0 : 0 ≤ z := by omega
          have z1 : z < 256 := by omega
          simp only [← hz2] at hlet h64 hwm h84
          have zn : decide (z < 0) = false := decide_eq_false (by omega)
          generalize Lib.indexByte unres4 m = I at *
          have HU := Lib.hid hun; have HPT := Lib.hid hpt; have H64 := Lib.hid h64; have HN2 := Lib.hid hN2
          clear hh h37 hc hd hmiss hjl hy hr htd hcut e0 e9 hun hpt hm8 hz2 h64 hN2 ha hb hwb
          generalize hxi : decide (0 ≤ I) = xi at *
          generalize alB m = xl at *
          cases xl with
          | true =>
            have hp : pctT a b = [m] := by rw [HPT.out, HU.out]; rfl
            have HP := Lib.hid hp
            clear hp hxi
            go_wp2_with (first | (go_at_call 84; refine (h84.out _).mono ?_; rintro e w1 ⟨rfl, hb1⟩; have HB1 := Lib.hid (HBld.out.keep hb1); have HB2 := Lib.hid (HB.out.trans (hb1.mono hsz)); clear hb1) | (go_at_call 44; refine (hlet.out _).mono ?_; rintro e w' ⟨rfl, rfl⟩) | (go_at_call 75; refine (hwm.out _ HB1.out HB2.out.size).mono ?_; rintro e w2 ⟨⟨v, rfl⟩, hb3, hb4⟩; have HB3 := Lib.hid hb3; have HB4 := Lib.hid (HB2.out.trans hb4); clear hb3 hb4))
            exact ⟨⟨j + 3, O ++ [m], by go_num, by omega, by simp; omega, Lib.hid (by rw [HN2.out, HP.out]), HB3, HB4⟩, by simp [intOf]; omega⟩
          | false =>
            cases xi with
            | true =>
              have hp : pctT a b = [m] := by rw [HPT.out, HU.out]; rfl
              have HP := Lib.hid hp
              clear hp
              go_wp2_with (first | (go_at_call 84; refine (h84.out _).mono ?_; rintro e w1 ⟨rfl, hb1⟩; have HB1 := Lib.hid (HBld.out.keep hb1); have HB2 := Lib.hid (HB.out.trans (hb1.mono hsz)); clear hb1) | (go_at_call 44; refine (hlet.out _).mono ?_; rintro e w' ⟨rfl, rfl⟩) | (go_at_call 64; refine (H64.out _).mono ?_; rintro e w' ⟨rfl, rfl⟩) | (go_at_call 75; refine (hwm.out _ HB1.out HB2.out.size).mono ?_; rintro e w2 ⟨⟨v, rfl⟩, hb3, hb4⟩; have HB3 := Lib.hid hb3; have HB4 := Lib.hid (HB2.out.trans hb4); clear hb3 hb4))
              exact ⟨⟨j + 3, O ++ [m], by go_num, by omega, by simp; omega, Lib.hid (by rw [HN2.out, HP.out]), HB3, HB4⟩, by simp [intOf]; omega⟩
            | false =>
              have hp : pctT a b = [37, upB a, upB b] := by rw [HPT.out, HU.out]; rfl
              have HP := Lib.hid hp
              clear hp
              go_wp2_with (first | (go_at_call 84; refine (h84.out _).mono ?_; rintro e w1 ⟨rfl, hb1⟩; have HB1 := Lib.hid (HBld.out.keep hb1); have HB2 := Lib.hid (HB.out.trans (hb1.mono hsz)); clear hb1) | (go_at_call 44; refine (hlet.out _).mono ?_; rintro e w' ⟨rfl, rfl⟩) | (go_at_call 64; refine (H64.out _).mono ?_; rintro e w' ⟨rfl, rfl⟩) | (go_at_call 92; refine (hup.out _).mono ?_; rintro e w2 ⟨rfl, hb1⟩; have HB3 := Lib.hid (HB1.out.keep hb1); have HB4 := Lib.hid (HB2.out.trans (hb1.mono HB2.out.size)); clear hb1) | (go_at_call 74; refine (hws.out _ HB3.out HB4.out.size).mono ?_; rintro e w3 ⟨⟨v, rfl⟩, hb3, hb4⟩; have HB5 := Lib.hid hb3; have HB6 := Lib.hid (HB4.out.trans hb4); clear hb3 hb4))
              exact ⟨⟨j + 3, O ++ [37, upB a, upB b], by go_num, by omega, by simp; omega, Lib.hid (by rw [HN2.out, HP.out]), HB5, HB6⟩, by simp [intOf]; omega⟩
      · have t37 : (((c.toNat : Nat) : Int) == 37) = false := (u8_beq c 37 37 rfl).trans (by simpa using h37)
        have hN2 := Lib.hid (hmiss (fun h => h37 h.1))
        obtain ⟨y, hy⟩ : ∃ y : Int, y = ((c.toNat : Nat) : Int) := ⟨_, rfl⟩
        rw [← hy] at t37
        simp only [← hy] at hx hwb
        clear h37 hc hd hmiss hjl hy
        go_wp2_with (go_at_call 75; refine (hwb.out _ HBld.out hsz).mono ?_; rintro e w2 ⟨⟨v, rfl⟩, hb3, hb4⟩; have HB3 := Lib.hid hb3; have HB4 := Lib.hid (HB.out.trans hb4); clear hb3 hb4)
        exact ⟨⟨j + 1, O ++ [c], by go_num, by omega, by simp; omega, hN2, HB3, HB4⟩, by simp [intOf]; omega⟩
    · obtain rfl : j = n := by omega
      have tj : decide ((j : Int) < (j : Int)) = false := by rw [decide_eq_false_iff_not]; omega
      have hNO : N = O := by rw [HNj.out, List.drop_of_length_le (by rw [← Hn.out]; exact Nat.le_refl _)]; simp [normP]
      have hst := Lib.hid (bldString_any w.heap.size w.heap.size O wr HBld.out hsz)
      subst hNO
      clear hjn
      go_wp2_with (go_at_call 76; refine hst.out.mono ?_; rintro e w9 ⟨rfl, hb9⟩; have HB9 := Lib.hid (HB.out.trans hb9); clear hb9)
      go_ret
      exact ⟨rfl, HB9.out⟩
end Go.Proofs.YtcpkkaimingnlaaGreatDoor
