/-
  link.Dots.
-/
import Derived.Test.YtcpkkaimingnlaaGreatDoorLro
namespace Go.Proofs.YtcpkkaimingnlaaGreatDoor
open Go.RowKit

def stepD (x : Bs) (last : Bool) (out : List Bs) : List Bs :=
  if x = d2 then (if last then out.dropLast ++ [[]] else out.dropLast) else if x = d1 then (if last then out ++ [[]] else out) else out ++ [x]
theorem dotsGo_step (x : Bs) (t out : List Bs) : dotsGo (x :: t) out = dotsGo t (stepD x t.isEmpty out) := by
  unfold stepD
  match t with
  | [] =>
    conv => lhs; rw [dotsGo]
    by_cases h2 : x = d2
    · rw [if_pos h2, if_pos h2]; rfl
    · rw [if_neg h2, if_neg h2]
      by_cases h1 : x = d1
      · rw [if_pos h1, if_pos h1]; rfl
      · rw [if_neg h1, if_neg h1]; rfl
  | y :: r =>
    conv => lhs; rw [dotsGo]
    by_cases h2 : x = d2
    · rw [if_pos h2, if_pos h2]; rfl
    · rw [if_neg h2, if_neg h2]
      by_cases h1 : x = d1
      · rw [if_pos h1, if_pos h1]; rfl
      · rw [if_neg h1, if_neg h1]
theorem prefix_slash (x : UInt8) (r : Bs) : Lib.hasPrefix (x :: r) [47] = (x == 47) := by
  show (((47 : UInt8) == x) && true) = _
  rw [Bool.and_true, Bool.eq_iff_iff, beq_iff_eq, beq_iff_eq]
  exact ⟨fun h => h.symm, fun h => h.symm⟩
theorem hasPrefix_any (s p : Bs) (w : World) : Calls Tryz.prog 53 #[.string (bs s), .string (bs p)] w fun e w' => e = .returned (.bool (Lib.hasPrefix s p)) ∧ w = w' := by
  have := Tryz.strings_HasPrefix (bs s) (bs p) w
  have e1 : (bs s).data.toList = s := by simp [bs]
  have e2 : (bs p).data.toList = p := by simp [bs]
  rw [e1, e2] at this
  exact this.mono fun _ _ ⟨h1, h2⟩ => ⟨h1, h2.symm⟩
theorem split_len (c : UInt8) (s : Bs) : (splitC c s).length ≤ s.length + 1 := by
  have h := join_len_sub c (splitC c s) (splitC_ne c s)
  rw [join_split] at h
  have : ∀ l : List Bs, l.length ≤ (l.map (fun p => p.length + 1)).sum := by
    intro l
    induction l with
    | nil => exact Nat.le_refl _
    | cons p l ih => rw [List.map_cons, List.sum_cons, List.length_cons]; omega
  have := this (splitC c s)
  omega
set_option maxHeartbeats 8000000 in
set_option maxRecDepth 100000 in
theorem dots_any (p : Bs) (w : World) (hT : Tabs w) (hl : p.length ≤ 3000000) :
    Calls Tryz.prog 19 #[.string (bs p)] w fun e w' => e = .returned (.string (bs (dotsP p))) ∧ Below w.heap.size w w' := by
  have hpre := Lib.hid (fun W => hasPrefix_any p [47] W)
  by_cases h47 : ∃ r, p = 47 :: r
  · obtain ⟨r, rfl⟩ := h47
    have e1 : Lib.hasPrefix (47 :: r) [47] = true := by rw [prefix_slash]; rfl
    rw [e1] at hpre
    have hd : dotsP (47 :: r) = 47 :: joinC 47 (dotsGo (splitC 47 r) []) := by rw [dotsP_cons, if_pos rfl]
    have hdl := dots_len (47 :: r)
    have hsp := Lib.hid (split_any r 47 (by rw [List.length_cons] at hl; omega) w hT)
    have hfr := str_from (47 :: r) 1 (by simp)
    have hfr : ∀ W, (Instr.slice 9 (.string (bs (47 :: r))) (some (.int .i64 1)) none none).run Tryz.prog W = .ok (.string (bs r)) W := hfr
    have hsl := split_len 47 r
    rw [List.length_cons] at hl
    generalize bs (47 :: r) = S at *
    obtain ⟨D, hD⟩ : ∃ D, D = dotsGo (splitC 47 r) [] := ⟨_, rfl⟩
    rw [← hD] at hd
    rw [hd] at hdl ⊢
    rw [List.length_cons, List.length_cons] at hdl
    generalize splitC 47 r = P at *
    have HD := Lib.hid hD
    clear hd hD
    obtain ⟨n, hn⟩ : ∃ n, n = P.length := ⟨_, rfl⟩
    rw [← hn] at hsp hsl
    have Hn := Lib.hid hn
    clear hn e1
    have hjoin := Lib.hid (fun (v : Value) (B : Nat) (W : World) (h : SOwn W B v D) (hn : D.length ≤ 8000000) => join_any D 47 v B W h hn (by omega))
    have eR : bs (47 :: joinC 47 D) = bs [47] ++ bs (joinC 47 D) := by rw [bs_cat]; rfl
    rw [eR]
    clear eR
    have hzj : (bs (joinC 47 D)).size = (joinC 47 D).length := bs_size _
    go_enter Tryz.func19, Tryz.ntmps19
    go_upto_region 5 with (first | (go_at_call 53; refine (hpre.out _).mono ?_; rintro e w' ⟨rfl, rfl⟩) | (go_at_call 58; refine hsp.out.mono ?_; rintro e w1 ⟨rfl, hw1⟩; have HW1 := Lib.hid hw1; clear hw1))
    clear hpre hsp hfr
    have hs1 : w1.heap.size = w.heap.size + 1 := by rw [HW1.out]; simp
    have hb1 : Below w.heap.size w w1 := by rw [HW1.out]; exact below_one _ _
    have hcel : Blk w1 w.heap.size 9 (strs P) := by rw [HW1.out]; have := blk_new w 9 (strs P).toArray; simpa using this
    have HB1 := Lib.hid hb1; have HC := Lib.hid hcel; have Hs1 := Lib.hid hs1
    clear hb1 hcel HW1 hs1
    go_wp2_with fail
    go_loopw [3, 17] (fun v i wr => ∃ (j : Nat) (O : List Bs), i = .int .i64 (j : Int) ∧ j ≤ n ∧ O.length ≤ j ∧ Hid (D = dotsGo (P.drop j) O) ∧ Hid (SOwn wr w1.heap.size v O) ∧ Hid (Below w1.heap.size w1 wr)) (fun _ i _ => n - (intOf i).toNat)
    case atStart => exact ⟨0, [], rfl, Nat.zero_le _, Nat.le_refl _, Lib.hid HD.out, Lib.hid SOwn.nil, Lib.hid (Below.refl _ _)⟩
    case round =>
      obtain ⟨j, O, rfl, hj, hO, HDj, HO, HB⟩ := hrel
      by_cases hjn : j < n
      · have tj : decide ((j : Int) < (n : Int)) = true := by rw [decide_eq_true_eq]; omega
        have hjl : j < P.length := by rw [← Hn.out]; exact hjn
        have hdr : P.drop j = P.getD j [] :: P.drop (j + 1) := by rw [List.drop_eq_getElem_cons hjl]; simp [hjl]
        have hcell : wr.cell? ⟨w.heap.size, j, none⟩ = some (.string (bs (P.getD j []))) := by
          rw [HB.out.cell (p := ⟨w.heap.size, j, none⟩) (by show w.heap.size < _; rw [Hs1.out]; omega), blk_cell HC.out j, strs_at P j hjl]
        obtain ⟨la, hla⟩ : ∃ la, la = decide (j + 1 = n) := ⟨_, rfl⟩
        have hem : (P.drop (j + 1)).isEmpty = la := by
          rw [hla, Bool.eq_iff_iff, List.isEmpty_iff, decide_eq_true_eq, List.drop_eq_nil_iff, ← Hn.out]; omega
        have tl : ((j : Int) == (n : Int) - 1) = la := by
          rw [hla, Bool.eq_iff_iff, beq_iff_eq, decide_eq_true_eq]; omega
        have hst : D = dotsGo (P.drop (j + 1)) (stepD (P.getD j []) la O) := by rw [HDj.out, hdr, dotsGo_step, hem]
        generalize P.getD j [] = x at *
        have HST := Lib.hid hst
        clear hst hdr hem hla hjl
        obtain ⟨A, c, hv, hc, hcm, hAn⟩ := HO.out.form
        subst hv
        have q1 : ((bs x).toList == [46, 46]) = decide (x = d2) := by rw [eq_bs, Bool.eq_iff_iff, beq_iff_eq, decide_eq_true_eq]; rfl
        have q2 : ((bs x).toList == [46]) = decide (x = d1) := by rw [eq_bs, Bool.eq_iff_iff, beq_iff_eq, decide_eq_true_eq]; rfl
        have hBs := HB.out.size
        by_cases h2 : x = d2
        · rw [decide_eq_true h2] at q1
          obtain ⟨m, hm⟩ : ∃ m, m = O.length - 1 := ⟨_, rfl⟩
          have hmx : max 0 ((O.length : Int) - 1) = ((m : Nat) : Int) := by omega
          have hdo := HO.out.drop
          have hdl2 : O.dropLast.length = m := by rw [List.length_dropLast, hm]
          rw [← hm] at hdo
          have hmc : m ≤ c := by omega
          have hmj : m ≤ j := by omega
          have HDO := Lib.hid hdo; have H2 := Lib.hid h2; have HL2 := Lib.hid hdl2
          clear hdo q2 hm h2 hdl2 HO
          cases la with
          | true =>
            have hst : D = dotsGo (P.drop (j + 1)) (O.dropLast ++ [[]]) := by rw [HST.out, H2.out]; rfl
            have HS2 := Lib.hid hst
            clear hst
            have hml : O.dropLast.length + 1 ≤ j + 1 := by rw [HL2.out]; omega
            have hml2 : O.dropLast.length + 1 ≤ 8000000 := by omega
            have HML := Lib.hid hml; have HML2 := Lib.hid hml2
            clear hml hml2
            go_wp2_with (at_builtin; refine wpList_pushS rfl (.tmp 39) (.tmp 40) rfl w1.heap.size hBs O.dropLast _ (by rfl) HDO.out [] (by rfl) HML2.out ?_; intro A2 c2 w2 ho2 hb2; have HO2 := Lib.hid ho2; have HB2 := Lib.hid hb2; clear ho2 hb2)
            exact ⟨⟨j + 1, O.dropLast ++ [[]], by go_num, by omega, by rw [List.length_append]; exact HML.out, HS2, Lib.hid (by have := HO2.out; rwa [List.length_dropLast] at this), Lib.hid (HB.out.trans HB2.out)⟩, by simp [intOf]; omega⟩
          | false =>
            have hst : D = dotsGo (P.drop (j + 1)) O.dropLast := by rw [HST.out, H2.out]; rfl
            have HS2 := Lib.hid hst
            clear hst
            go_wp2_with fail
            exact ⟨⟨j + 1, O.dropLast, by go_num, by omega, by rw [HL2.out]; omega, HS2, HDO, HB⟩, by simp [intOf]; omega⟩
        · rw [decide_eq_false h2] at q1
          by_cases h1 : x = d1
          · rw [decide_eq_true h1] at q2
            have H1 := Lib.hid h1; have H2 := Lib.hid h2
            clear h1 h2
            cases la with
            | true =>
              have hst : D = dotsGo (P.drop (j + 1)) (O ++ [[]]) := by rw [HST.out]; unfold stepD; rw [if_neg H2.out, if_pos H1.out]; rfl
              have HS2 := Lib.hid hst
              clear hst
              go_wp2_with (at_builtin; refine wpList_pushS rfl (.tmp 39) (.tmp 40) rfl w1.heap.size hBs O _ (by rfl) HO.out [] (by rfl) (by omega) ?_; intro A2 c2 w2 ho2 hb2; have HO2 := Lib.hid ho2; have HB2 := Lib.hid hb2; clear ho2 hb2)
              exact ⟨⟨j + 1, O ++ [[]], by go_num, by omega, by rw [List.length_append]; exact Nat.succ_le_succ hO, HS2, HO2, Lib.hid (HB.out.trans HB2.out)⟩, by simp [intOf]; omega⟩
            | false =>
              have hst : D = dotsGo (P.drop (j + 1)) O := by rw [HST.out]; unfold stepD; rw [if_neg H2.out, if_pos H1.out]; rfl
              have HS2 := Lib.hid hst
              clear hst
              go_wp2_with fail
              exact ⟨⟨j + 1, O, by go_num, by omega, by omega, HS2, HO, HB⟩, by simp [intOf]; omega⟩
          · rw [decide_eq_false h1] at q2
            have hst : D = dotsGo (P.drop (j + 1)) (O ++ [x]) := by rw [HST.out]; unfold stepD; rw [if_neg h2, if_neg h1]
            have HS2 := Lib.hid hst
            clear hst h1 h2
            go_wp2_with (at_builtin; refine wpList_pushS rfl (.tmp 42) (.tmp 44) rfl w1.heap.size hBs O _ (by rfl) HO.out x (by rfl) (by omega) ?_; intro A2 c2 w2 ho2 hb2; have HO2 := Lib.hid ho2; have HB2 := Lib.hid hb2; clear ho2 hb2)
            exact ⟨⟨j + 1, O ++ [x], by go_num, by omega, by rw [List.length_append]; exact Nat.succ_le_succ hO, HS2, HO2, Lib.hid (HB.out.trans HB2.out)⟩, by simp [intOf]; omega⟩
      · obtain rfl : j = n := by omega
        have tj : decide ((j : Int) < (j : Int)) = false := by rw [decide_eq_false_iff_not]; omega
        have hDO : O = D := by rw [HDj.out, List.drop_of_length_le (by rw [← Hn.out]; exact Nat.le_refl _)]; rfl
        subst hDO
        have hjo := Lib.hid (hjoin.out _ w1.heap.size wr HO.out (by omega))
        clear hjn
        go_wp2_with (go_at_call 59; refine hjo.out.mono ?_; rintro e w9 ⟨rfl, hb9⟩; have HB9 := Lib.hid hb9; clear hb9)
        go_ret
        exact ⟨rfl, (HB1.out.trans (HB.out.mono HB1.out.size)).trans (HB9.out.mono (Nat.le_trans HB1.out.size HB.out.size))⟩
  · have e1 : Lib.hasPrefix p [47] = false ∧ dotsP p = p := by
      match p with
      | [] => exact ⟨rfl, rfl⟩
      | x :: r =>
        have hx : x ≠ 47 := fun e => h47 ⟨r, by rw [e]⟩
        exact ⟨by rw [prefix_slash, beq_eq_false_iff_ne]; exact hx, by rw [dotsP_cons, if_neg hx]⟩
    rw [e1.1] at hpre
    rw [e1.2]
    clear e1 h47 hl
    generalize bs p = S at *
    go_enter Tryz.func19, Tryz.ntmps19
    go_wp2_with (go_at_call 53; refine (hpre.out _).mono ?_; rintro e w' ⟨rfl, rfl⟩)
    go_ret
    exact ⟨rfl, Below.refl _ _⟩
end Go.Proofs.YtcpkkaimingnlaaGreatDoor
