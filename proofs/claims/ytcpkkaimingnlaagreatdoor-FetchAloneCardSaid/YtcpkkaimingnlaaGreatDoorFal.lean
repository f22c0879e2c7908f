/-
  The law FetchAlone, walked.
-/
import Derived.Test.YtcpkkaimingnlaaGreatDoorFD
set_option linter.unusedVariables false
set_option linter.unusedSimpArgs false
namespace Go.Proofs.YtcpkkaimingnlaaGreatDoor
open Go.RowKit

set_option maxHeartbeats 16000000 in
set_option maxRecDepth 100000 in
theorem alone_any (period : Int) (os : List Opn) (A : Option Addr) (ck : Nat) (w : World) (hT : Tabs w) (hck : os.length ≤ ck ∧ ck ≤ 9223372036854775807)
    (hrk : ScRd w A os) : Calls Tryz.prog 12 #[.int .i64 period, .slice A os.length ck] w fun e w' => e = .returned (.bool true) ∧ Below w.heap.size w w' := by
  have HW := Lib.hid hT
  have hfi := Lib.hid (first14_any w hT)
  have HRK := Lib.hid hrk
  obtain ⟨n, hn⟩ : ∃ n, n = wrap64 (1 + wrap64 ((IntKind.u64.wrap period).tmod 20)) := ⟨_, rfl⟩
  have hn20 : 1 ≤ n ∧ n ≤ 20 := by
    rw [hn, unit_val _ _ ⟨by decide, by decide⟩]
    have := unit_mod period 20 (by decide)
    omega
  have hnew2 := Lib.hid (fun W (h : Below w.heap.size w W) => newPQ n ⟨hn20.1, by omega⟩ [hH, hK] (okNew_HK n ⟨hn20.1, by omega⟩) h hT (fun s hs => hK_two s hs) (by decide))
  have hnew1 := Lib.hid (fun W (h : Below w.heap.size w W) => newPQ n ⟨hn20.1, by omega⟩ [hK] (okNew_K n ⟨hn20.1, by omega⟩) h hT (fun s hs => hK_one s hs) (by decide))
  clear hT hrk
  obtain ⟨nk, hnk⟩ : ∃ nk, nk = os.length := ⟨_, rfl⟩
  rw [← hnk] at hck ⊢
  have HNK := Lib.hid hnk
  clear hnk
  go_enter Tryz.func12, Tryz.ntmps12
  go_upto_region 4 with (go_at_call 25; refine hfi.out.mono ?_; rintro e w1 ⟨rfl, hb1⟩; have HB1 := Lib.hid hb1; clear hb1)
  rw [← hn]
  generalize (IntKind.u64.wrap period).tmod 20 = x25
  clear hn hfi
  go_upto_region 5 with (go_at_call 26; refine (hnew2.out _ HB1.out).mono ?_; rintro e w2 ⟨lo1, hi1, g1, A1, c1, gs1, rfl, hq, _, hs1, _⟩; have H2 := Lib.hid hq; have HS1 := Lib.hid hs1; clear hq hs1)
  go_upto_region 6 with (go_at_call 26; refine (hnew1.out _ H2.out.bel).mono ?_; rintro e w3 ⟨lo2, hi2, g2, A2, c2, gs2, rfl, hq, hl2, _, hb3⟩; have H3 := Lib.hid (show TQ w w3 lo1 hi1 g1 A1 c1 gs1 lo2 hi2 g2 A2 c2 gs2 n 0 [newS hH, newS hK] 0 [newS hK] from ⟨H2.out.call hb3, hq, Nat.le_trans HS1.out hl2⟩); clear hq hl2 hb3)
  clear H2 HS1 HB1 hnew1 hnew2
  go_upto_block 0 with fail
  go_cut [6] (fun v wx => v = ptr g1 ∧ Hid (Below w.heap.size w wx))
  case first =>
    as_aux_lemma =>
      go_upto_block 1 with fail
      go_loopw [42] (fun i wr => ∃ (j : Nat) (s0 s1 : Src) (now : Int), i = .int .i64 (j : Int) ∧ j ≤ nk ∧ (0 ≤ now ∧ now ≤ j * 40) ∧ Hid (TQ w wr lo1 hi1 g1 A1 c1 gs1 lo2 hi2 g2 A2 c2 gs2 n now [s0, s1] now [s1])) (fun i _ => nk - (intOf i).toNat)
      case atStart => exact ⟨0, newS hH, newS hK, 0, rfl, Nat.zero_le _, ⟨by omega, by omega⟩, H3⟩
      case round =>
        obtain ⟨j, s0, s1, now, rfl, hj, hnow, H⟩ := hrel
        clear H3
        by_cases hjn : j < nk
        · have tj : decide ((j : Int) < (nk : Int)) = true := by rw [decide_eq_true_eq]; omega
          obtain ⟨o, ho⟩ : ∃ o, os[j]? = some o := ⟨os[j]'(by have := HNK.out; omega), List.getElem?_eq_getElem _⟩
          obtain ⟨⟨b, off, hA, hr⟩, hbd⟩ := HRK.out.at_ H.out.a.bel ho
          subst hA
          have HBD := Lib.hid hbd
          obtain ⟨Ab, cb, hbe, hlc, hcm, _⟩ := hbd
          obtain ⟨on, so, ⟨lost, st, loc, et, mo, body⟩, lb⟩ := o
          simp only at hbe hlc HBD
          subst hbe
          have HR := Lib.hid hr
          clear ho hr
          go_upto_region 9 with (first | ((with_reducible refine atD 46 ?_); refine wpList_loadMO (by rfl) (.tmp 45) rfl b (off + j * 8) (by rfl) ⟨on, so, ⟨lost, st, loc, et, mo, .slice Ab lb.length cb⟩, lb⟩ HR.out ?_) | ((with_reducible refine atS 11 46 ?_); refine wpList_storeR rfl 50 (.tmp 11) (.tmp 46) rfl wr.heap.size (opc ⟨on, so, ⟨lost, st, loc, et, mo, .slice Ab lb.length cb⟩, lb⟩).toArray (by rfl) (by rfl) 50 _ (blk_new wr 50 _) info50 rfl (by rw [← Array.all_toList]; rfl) ?_; intro X1 hb1 ht1; have HBk := Lib.hid (show Blk X1 wr.heap.size 50 (opc ⟨on, so, ⟨lost, st, loc, et, mo, .slice Ab lb.length cb⟩, lb⟩) from hb1); have H4 := Lib.hid (H.out.call (ht1.below wr.heap.size wr (Nat.le_refl _) (below_one wr _))); clear hb1 ht1))
          have hp : hi2 ≤ wr.heap.size := H.out.lt.2.2
          clear HR H
          generalize wr.heap.size = p at *
          clear wr
          have k4 := (blk_cell HBk.out 4).trans (show _ = some (.string (bs loc)) from rfl)
          have k5 := (blk_cell HBk.out 5).trans (show _ = some (.string (bs et)) from rfl)
          have k6 := (blk_cell HBk.out 6).trans (show _ = some (.string (bs mo)) from rfl)
          have k7 := (blk_cell HBk.out 7).trans (show _ = some (.slice Ab lb.length cb) from rfl)
          obtain ⟨B, hB⟩ : ∃ B, B = (decide (50 ≤ j) || (decide (2100 < max (max loc.length et.length) mo.length) || decide (70000 < lb.length))) := ⟨_, rfl⟩
          have HBq := Lib.hid hB
          clear hB
          try simp only [Act.put, List.getElem_toArray, List.getElem_cons_succ, List.getElem_cons_zero, List.setIfInBounds_toArray, List.set_cons_zero, List.set_cons_succ]
          go_cut [71] (fun v wx => v = .bool B ∧ wx = X1)
          case first =>
            as_aux_lemma =>
              obtain ⟨b1, hb1⟩ : ∃ b1, b1 = decide (50 ≤ j) := ⟨_, rfl⟩
              have q1 : decide ((j : Int) ≥ 50) = b1 := by rw [hb1, Bool.eq_iff_iff, decide_eq_true_eq, decide_eq_true_eq]; omega
              have q2 : decide (50 ≤ j) = b1 := hb1.symm
              have hB := HBq.out
              rw [← hb1] at hB
              have HB2 := Lib.hid hB
              clear hb1 hB HBq
              have hl1 : (bs loc).size = loc.length := bs_size loc
              have hl2 : (bs et).size = et.length := bs_size et
              have hl3 : (bs mo).size = mo.length := bs_size mo
              generalize loc.length = n1 at *
              generalize et.length = n2 at *
              generalize mo.length = n3 at *
              cases b1 with
              | true =>
                have e : B = true := HB2.out
                clear HB2
                go_wp2_with fail
                go_meet
                exact ⟨by rw [e], rfl⟩
              | false =>
                generalize lb.length = n4 at *
                go_wp2_with fail
                all_goals go_meet
                all_goals refine ⟨?_, rfl⟩
                all_goals rw [HB2.out, Bool.false_or]
                all_goals congr 1
                all_goals rw [Bool.eq_iff_iff]
                all_goals simp only [Bool.or_eq_true, decide_eq_true_eq, true_iff, Bool.false_eq_true, false_iff]
                all_goals omega
          case rest =>
            as_aux_lemma =>
              obtain ⟨rfl, rfl⟩ := hcut
              cases B with
              | true =>
                clear HBq
                go_wp2_with fail
                go_meet
                exact ⟨rfl, Lib.hid H4.out.a.bel⟩
              | false =>
                have hsz : j < 50 ∧ loc.length ≤ 2100 ∧ et.length ≤ 2100 ∧ mo.length ≤ 2100 ∧ lb.length ≤ 70000 := by
                  have := HBq.out.symm
                  simp only [Bool.or_eq_false_iff, decide_eq_false_iff_not] at this
                  omega
                clear HBq
                obtain ⟨M, hM, hM40⟩ : ∃ M : Nat, wrap64 (1 + wrap64 ((IntKind.u64.wrap on).tmod 40)) = (M : Int) ∧ M ≤ 40 := by
                  rw [unit_val _ _ ⟨by decide, by decide⟩]
                  have := unit_mod on 40 (by decide)
                  exact ⟨(1 + (IntKind.u64.wrap on).tmod 40).toNat, by omega, by omega⟩
                have k0 := (blk_cell HBk.out 0).trans (show _ = some (.int .i64 on) from rfl)
                clear k4 k5 k6 k7
                have HM := Lib.hid hM
                clear hM
                go_upto_block 2 with fail
                rw [HM.out]
                clear HM
                generalize (IntKind.u64.wrap on).tmod 40 = x75
                clear k0
                go_cut [11] (fun v wx => v = .pointer (some ⟨p, 0, none⟩) ∧ ∃ (s0' s1' : Src), Hid (TQ w wx lo1 hi1 g1 A1 c1 gs1 lo2 hi2 g2 A2 c2 gs2 n (now + M) [s0', s1'] (now + M) [s1']) ∧ Hid (Blk wx p 50 (opc ⟨on, so, ⟨lost, st, loc, et, mo, .slice Ab lb.length cb⟩, lb⟩)))
                case first =>
                  as_aux_lemma =>
                    go_upto_block 3 with fail
                    go_loopw [78] (fun i wx => ∃ (m : Nat) (s0' s1' : Src), i = .int .i64 (m : Int) ∧ m ≤ M ∧ Hid (TQ w wx lo1 hi1 g1 A1 c1 gs1 lo2 hi2 g2 A2 c2 gs2 n (now + m) [s0', s1'] (now + m) [s1']) ∧ Hid (Blk wx p 50 (opc ⟨on, so, ⟨lost, st, loc, et, mo, .slice Ab lb.length cb⟩, lb⟩))) (fun i _ => M - (intOf i).toNat)
                    case atStart => exact ⟨0, s0, s1, rfl, Nat.zero_le _, by simpa using H4, HBk⟩
                    case round =>
                      obtain ⟨m, s0', s1', rfl, hm, H5, HBk5⟩ := hrel
                      clear H4 HBk
                      by_cases hmM : m < M
                      · have tm : decide ((m : Int) < (M : Int)) = true := by rw [decide_eq_true_eq]; omega
                        have htk := Lib.hid (tickTA H5.out ⟨by omega, by omega⟩ (by simp))
                        obtain ⟨L, hL⟩ : ∃ L, L = asksP (now + m + 1) 0 [s0', s1'] := ⟨_, rfl⟩
                        rw [← hL] at htk
                        have hLl : L.length ≤ 2 := by rw [hL]; exact asks_len ..
                        have HL1 := Lib.hid (show one0 L = asksP (now + m + 1) 0 [s1'] by rw [hL]; exact one0_asks ..)
                        clear hL
                        go_upto_block 4 with (go_at_call 30; refine htk.out.mono ?_; rintro e wT ⟨⟨v, rfl, hv⟩, hq, ho⟩; have HV0 := Lib.hid hv; obtain ⟨AL, cL, hvv, hcL, hcmL, _⟩ := hv.form; subst hvv; have H6 := Lib.hid hq; have HBk6 := Lib.hid (blk_only HBk5.out ho (.inr hp)); clear hv hq ho)
                        clear htk H5 HBk5
                        go_cut [12] (fun xv wx => Hid (AOwn wx wT.heap.size xv (one0 L)) ∧ Hid (Below wT.heap.size wT wx))
                        case first =>
                          as_aux_lemma =>
                            clear H6 HBk6 HL1
                            go_upto_block 5 with fail
                            go_loopw [12, 83] (fun xv i wq => ∃ q : Nat, i = .int .i64 (q : Int) ∧ q ≤ L.length ∧ Hid (AOwn wq wT.heap.size xv (one0 (L.take q))) ∧ Hid (Below wT.heap.size wT wq)) (fun _ i _ => L.length - (intOf i).toNat)
                            case atStart => exact ⟨0, rfl, Nat.zero_le _, Lib.hid AOwn.nil, Lib.hid (Below.refl _ _)⟩
                            case round =>
                              obtain ⟨q, rfl, hq, HX, HB⟩ := hrel
                              by_cases hqL : q < L.length
                              · have tq : decide ((q : Int) < (L.length : Int)) = true := by rw [decide_eq_true_eq]; omega
                                obtain ⟨x, hx⟩ : ∃ x, L[q]? = some x := ⟨L[q]'hqL, List.getElem?_eq_getElem _⟩
                                obtain ⟨_, gL, hA1, _, _, hr1⟩ := (HV0.out.keep HB.out).at_ q x hx
                                subst hA1
                                have HR := Lib.hid (show wr.rangeAt gL (q * 4) (akc x) by rw [Nat.mul_comm]; exact hr1)
                                have HC := Lib.hid (one0_snoc hx)
                                have hk2 : (one0 (L.take q)).length ≤ 2 := Nat.le_trans (one0_len _) (by rw [List.length_take]; omega)
                                generalize one0 (L.take q) = l0 at *
                                obtain ⟨bz, hbz⟩ : ∃ bz, bz = decide (x.src = 1) := ⟨_, rfl⟩
                                have t1 : ((((x.src : Nat) : Int)) == 1) = bz := by rw [hbz, Bool.eq_iff_iff, beq_iff_eq, decide_eq_true_eq]; omega
                                have t2 : (x.src == 1) = bz := by rw [hbz, Bool.eq_iff_iff, beq_iff_eq, decide_eq_true_eq]
                                have t3 : decide (x.src = 1) = bz := hbz.symm
                                have HBZ := Lib.hid hbz
                                clear hr1 hx hbz
                                go_upto_if 89 with (first | ((with_reducible refine atD 86 ?_); refine wpList_loadMA (by rfl) (.tmp 85) rfl gL (q * 4) (by rfl) x HR.out ?_) | ((with_reducible refine atS 14 86 ?_); refine wpList_storeR rfl 69 (.tmp 14) (.tmp 86) rfl wr.heap.size (akc x).toArray (by rfl) (by rfl) 69 _ (blk_new wr 69 _) info69 rfl (by rw [← Array.all_toList]; rfl) ?_; intro X1 hb1 ht1; have k0 := (blk_cell hb1 0).trans (show _ = some (.int .i64 ((x.src : Nat) : Int)) from rfl); have HK := Lib.hid (show Blk X1 wr.heap.size 69 (akc x) from hb1); have HBw := Lib.hid (ht1.below wr.heap.size wr (Nat.le_refl _) (below_one wr _)); clear hb1 ht1))
                                clear t1 t2 t3 HR k0
                                cases bz with
                                | true =>
                                  have hc := HC.out
                                  rw [if_pos (of_decide_eq_true HBZ.out.symm)] at hc
                                  have HC2 := Lib.hid hc
                                  clear hc HC HBZ
                                  have hsz : wT.heap.size ≤ wr.heap.size := HB.out.size
                                  have hA4 : (akc { x with src := 0 }).length = 4 := rfl
                                  go_wp2_with (first | ((with_reducible refine atC 90 ?_); refine wpList_storeC rfl 3 (.tmp 90) (.const (.int .i64 0)) rfl wr.heap.size 0 (.int .i64 0) (by rfl) (by rfl) rfl info3 69 _ HK.out (by exact Nat.le_of_ble_eq_true rfl) ?_; intro X2 hb1 ht1; have HK2 := Lib.hid (show Blk X2 wr.heap.size 69 (akc { x with src := 0 }) from hb1); have HBw2 := Lib.hid (ht1.below wr.heap.size wr (Nat.le_refl _) HBw.out); have hsz2 := Nat.le_trans hsz HBw2.out.size; clear hb1 ht1) | ((with_reducible refine atD 92 ?_); refine wpList_loadR rfl 69 (.tmp 14) rfl wr.heap.size (by rfl) 69 (akc { x with src := 0 }) _ HK2.out Tryz.underlying69 rfl info69 ?_) | (at_builtin; change wpList _ _ _ _ _ (X2.alloc (.cells (akc { x with src := 0 }).toArray 69)); refine wpList_pushA rfl (.tmp 91) (.tmp 93) rfl wT.heap.size hsz2 l0 _ (by rfl) (HX.out.keep HBw2.out) { x with src := 0 } (by rfl) (by omega) ?_; intro A5 c5 w5 ho5 hb5; have HX2 := Lib.hid ho5; have HB3 := Lib.hid ((Below.andThen HB.out HBw2.out).trans hb5); clear ho5 hb5))
                                  exact ⟨⟨q + 1, by go_num, by omega, by rw [HC2.out]; exact HX2, HB3⟩, by simp [intOf]; omega⟩
                                | false =>
                                  have hc := HC.out
                                  rw [if_neg (of_decide_eq_false HBZ.out.symm), List.append_nil] at hc
                                  have HC2 := Lib.hid hc
                                  have HX2 := Lib.hid (HX.out.keep HBw.out)
                                  have HB2 := Lib.hid (Below.andThen HB.out HBw.out)
                                  clear hc HC HBZ HK HBw
                                  go_wp2_with fail
                                  exact ⟨⟨q + 1, by go_num, by omega, by rw [HC2.out]; exact HX2, HB2⟩, by simp [intOf]; omega⟩
                              · have tq : decide ((q : Int) < (L.length : Int)) = false := by rw [decide_eq_false_iff_not]; omega
                                have e : L.take q = L := List.take_of_length_le (by omega)
                                rw [e] at HX
                                go_wp2_with fail
                                go_meet
                                exact ⟨HX, HB⟩
                        case rest =>
                          as_aux_lemma =>
                            obtain ⟨HX, HB⟩ := hcut
                            have H7 := Lib.hid (H6.out.call HB.out)
                            have HBk7 := Lib.hid (blk_below HBk6.out HB.out (blk_lt HBk6.out))
                            have htk := Lib.hid (tickTB H7.out ⟨by omega, by omega⟩ (by simp))
                            have hh : hi2 ≤ wT.heap.size := H6.out.lt.2.2
                            clear HV0 H6 HBk6
                            go_wp2_with (first | (go_at_call 30; refine htk.out.mono ?_; rintro e w8 ⟨⟨v8, rfl, hv⟩, hq, ho⟩; have hsm := Lib.hid (same_yes (HX.out.only ho hh) hv HL1.out (Nat.le_trans (one0_len L) (by omega))); have H8 := Lib.hid hq; have HBk8 := Lib.hid (blk_only HBk7.out ho (.inr hp)); clear hv hq ho) | (go_at_call 29; refine hsm.out.mono ?_; rintro e w9 ⟨rfl, hb⟩; have H9 := Lib.hid (H8.out.call hb); have HBk9 := Lib.hid (blk_below HBk8.out hb (blk_lt HBk8.out)); clear hb))
                            have e : now + ((m + 1 : Nat) : Int) = now + m + 1 := by omega
                            exact ⟨⟨m + 1, tickP (now + m + 1) s0', tickP (now + m + 1) s1', by go_num, by omega, by rw [e]; exact H9, HBk9⟩, by simp [intOf]; omega⟩
                      · have tm : decide ((m : Int) < (M : Int)) = false := by rw [decide_eq_false_iff_not]; omega
                        have hmM2 : m = M := by omega
                        rw [hmM2] at H5
                        go_wp2_with fail
                        go_meet
                        exact ⟨rfl, s0', s1', H5, HBk5⟩
                case rest =>
                  as_aux_lemma =>
                    obtain ⟨rfl, s0', s1', H5, HBk5⟩ := hcut
                    clear H4 HBk
                    obtain ⟨t, ht⟩ : ∃ t, t = now + M := ⟨_, rfl⟩
                    rw [← ht] at H5
                    have ht2 : 0 ≤ t ∧ t ≤ ((j + 1 : Nat) : Int) * 40 := by omega
                    have ht3 : t ≤ 1000000 := by omega
                    clear ht hnow
                    have k1 := (blk_cell HBk5.out 1).trans (show _ = some (.int .i64 so) from rfl)
                    obtain ⟨bS, hbS⟩ : ∃ bS, bS = decide (so = 1) := ⟨_, rfl⟩
                    have t1 : (so == 1) = bS := by rw [hbS, Bool.eq_iff_iff, beq_iff_eq, decide_eq_true_eq]
                    clear hbS
                    go_upto_if 104 with fail
                    clear t1 k1
                    go_cut [6] (fun v wx => v = ptr g1 ∧ ∃ (sa sb : Src), Hid (TQ w wx lo1 hi1 g1 A1 c1 gs1 lo2 hi2 g2 A2 c2 gs2 n t [sa, sb] t [sb]))
                    case first =>
                      as_aux_lemma =>
                        cases bS with
                        | true =>
                          obtain ⟨s1'', tk, er, hR1, hR2⟩ := hear_one n t s0' s1' ⟨lost, st, loc, et, mo, .slice Ab lb.length cb⟩ lb.length
                          have hhA := Lib.hid (hearTA H5.out HW.out ⟨ht2.1, by omega⟩ ⟨hn20.1, by omega⟩ 1 ⟨lost, st, loc, et, mo, .slice Ab lb.length cb⟩ lb HBD.out (by omega) (by show loc.length ≤ _; omega) (by show et.length ≤ _; omega) (by show mo.length ≤ _; omega) _ _ _ hR1)
                          have HR2 := Lib.hid hR2
                          clear hR1 hR2
                          have q1 : (tk != tk) = false := by cases tk <;> rfl
                          have q2 : (er != er) = false := by simp
                          go_wp2_with (first | ((with_reducible refine atD 108 ?_); refine wpList_loadMW (by rfl) (.tmp 107) rfl p (by rfl) on so ⟨lost, st, loc, et, mo, .slice Ab lb.length cb⟩ lb HBk5.out ?_) | ((with_reducible refine atD 116 ?_); refine wpList_loadMW (by rfl) (.tmp 115) rfl p (by rfl) on so ⟨lost, st, loc, et, mo, .slice Ab lb.length cb⟩ lb HBk6.out ?_) | (go_at_call 32; refine hhB.out.mono ?_; rintro e w7 ⟨⟨v7, rfl⟩, hq, ho⟩; have H7 := Lib.hid hq; clear hq ho) | (go_at_call 32; refine hhA.out.mono ?_; rintro e w6 ⟨⟨v6, rfl⟩, hq, ho⟩; have H6 := Lib.hid hq; have HBk6 := Lib.hid (blk_only HBk5.out ho (.inr hp)); have hhB := Lib.hid (hearTB H6.out HW.out ⟨ht2.1, by omega⟩ ⟨hn20.1, by omega⟩ 0 ⟨lost, st, loc, et, mo, .slice Ab lb.length cb⟩ lb HBD.out (by omega) (by show loc.length ≤ _; omega) (by show et.length ≤ _; omega) (by show mo.length ≤ _; omega) _ _ _ HR2.out); clear hq ho))
                          go_meet
                          exact ⟨rfl, s0', s1'', H7⟩
                        | false =>
                          obtain ⟨s0'', tk, er, hR0⟩ := hear_other n t s0' s1' ⟨lost, st, loc, et, mo, .slice Ab lb.length cb⟩ lb.length
                          have hhA := Lib.hid (hearTA H5.out HW.out ⟨ht2.1, by omega⟩ ⟨hn20.1, by omega⟩ 0 ⟨lost, st, loc, et, mo, .slice Ab lb.length cb⟩ lb HBD.out (by omega) (by show loc.length ≤ _; omega) (by show et.length ≤ _; omega) (by show mo.length ≤ _; omega) _ _ _ hR0)
                          clear hR0
                          go_wp2_with (first | ((with_reducible refine atD 131 ?_); refine wpList_loadMW (by rfl) (.tmp 130) rfl p (by rfl) on so ⟨lost, st, loc, et, mo, .slice Ab lb.length cb⟩ lb HBk5.out ?_) | (go_at_call 32; refine hhA.out.mono ?_; rintro e w6 ⟨⟨v6, rfl⟩, hq, ho⟩; have H6 := Lib.hid hq; clear hq ho))
                          go_meet
                          exact ⟨rfl, s0'', s1', H6⟩
                    case rest =>
                      as_aux_lemma =>
                        obtain ⟨rfl, sa, sb, H6⟩ := hcut
                        clear H5 HBk5
                        have d1 := Lib.hid (show Calls Tryz.prog 35 #[ptr g1, .int .i64 1] wc fun e w' => e = .returned (.int .i64 sb.due) ∧ wc = w' from duePQ H6.out.a 1 (Nat.le_refl _))
                        have D2 := Lib.hid (show Calls Tryz.prog 35 #[ptr g2, .int .i64 0] wc fun e w' => e = .returned (.int .i64 sb.due) ∧ wc = w' from duePQ H6.out.b 0 (Nat.le_refl _))
                        have l1 := Lib.hid (show Calls Tryz.prog 36 #[ptr g1, .int .i64 1] wc fun e w' => e = .returned (.string (bs sb.own)) ∧ wc = w' from linkPQ H6.out.a 1 (Nat.le_refl _))
                        have L2 := Lib.hid (show Calls Tryz.prog 36 #[ptr g2, .int .i64 0] wc fun e w' => e = .returned (.string (bs sb.own)) ∧ wc = w' from linkPQ H6.out.b 0 (Nat.le_refl _))
                        have f1 := Lib.hid (show Calls Tryz.prog 37 #[ptr g1, .int .i64 1] wc fun e w' => e = .returned (.int .i64 sb.fails) ∧ wc = w' from failsPQ H6.out.a 1 (Nat.le_refl _))
                        have F2 := Lib.hid (show Calls Tryz.prog 37 #[ptr g2, .int .i64 0] wc fun e w' => e = .returned (.int .i64 sb.fails) ∧ wc = w' from failsPQ H6.out.b 0 (Nat.le_refl _))
                        generalize sb.due = y1 at d1 D2
                        generalize sb.own = y2 at l1 L2
                        generalize sb.fails = y3 at f1 F2
                        have q1 : (y1 != y1) = false := by simp
                        have q2 : (y3 != y3) = false := by simp
                        have q3 : ((bs y2).toList != (bs y2).toList) = false := by simp
                        have hjj : j + 1 ≤ nk := by omega
                        go_wp2_with (first | (go_at_call 35; refine d2.out.mono ?_; rintro e w' ⟨rfl, rfl⟩) | (go_at_call 35; refine d1.out.mono ?_; rintro e w' ⟨rfl, rfl⟩; have d2 := D2; clear D2) | (go_at_call 36; refine l2.out.mono ?_; rintro e w' ⟨rfl, rfl⟩) | (go_at_call 36; refine l1.out.mono ?_; rintro e w' ⟨rfl, rfl⟩; have l2 := L2; clear L2) | (go_at_call 37; refine f2.out.mono ?_; rintro e w' ⟨rfl, rfl⟩) | (go_at_call 37; refine f1.out.mono ?_; rintro e w' ⟨rfl, rfl⟩; have f2 := F2; clear F2))
                        exact ⟨⟨j + 1, sa, sb, t, by go_num, hjj, ht2, H6⟩, by simp [intOf]; omega⟩
        · have tj : decide ((j : Int) < (nk : Int)) = false := by rw [decide_eq_false_iff_not]; omega
          go_wp2_with fail
          go_meet
          exact ⟨rfl, Lib.hid H.out.a.bel⟩
  case rest =>
    as_aux_lemma =>
      obtain ⟨rfl, HB⟩ := hcut
      clear H3 HRK HNK
      go_wp2_with fail
      go_ret
      exact ⟨rfl, HB.out⟩
end Go.Proofs.YtcpkkaimingnlaaGreatDoor
