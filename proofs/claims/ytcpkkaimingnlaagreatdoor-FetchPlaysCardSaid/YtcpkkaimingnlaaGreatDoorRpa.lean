/-
  The document's Parse.
-/
import Derived.Test.YtcpkkaimingnlaaGreatDoorMC
import Derived.Test.YtcpkkaimingnlaaGreatDoorMK
import Derived.Test.YtcpkkaimingnlaaGreatDoorMF
set_option linter.unusedVariables false
set_option linter.unusedSimpArgs false
namespace Go.Proofs.YtcpkkaimingnlaaGreatDoor
open Go.RowKit

def rI (r : Option Link) : Ending := .returned (.tuple #[.agg (lcs (r.getD Link.zero)).toArray, .bool r.isSome])
set_option maxHeartbeats 16000000 in
set_option maxRecDepth 100000 in
theorem rparse_any (s : Bs) (w : World) (hmax : s.length ≤ 9223372036854775807) :
    Calls Tryz.prog 15 #[.string (bs s)] w fun e w' => e = rI (parseR s) ∧ Below w.heap.size w w' := by
  have hz : (bs s).size = s.length := bs_size s
  obtain ⟨R, hR2⟩ : ∃ R, R = parseR s := ⟨_, rfl⟩
  rw [← hR2]
  obtain ⟨E, hE⟩ : ∃ E, E = rI R := ⟨_, rfl⟩
  rw [← hE]
  have HR2 := Lib.hid hR2; have HR := Lib.hid hE
  clear hR2 hE
  have HP0 := Lib.hid (pw_start w zcs zcs)
  by_cases hlen : s.length ≤ 2048
  · have hnl : decide ((s.length : Int) > 2048) = false := decide_eq_false (by omega)
    have hR : R = _ := HR2.out.trans (parseR_stop s hlen)
    have hn1 := stop_le [58] s
    have hu1 := Lib.hid (fun W => until_any s [58] W (by omega) (by decide))
    obtain ⟨n1, hn1e⟩ : ∃ n1, n1 = stop [58] s := ⟨_, rfl⟩
    rw [← hn1e] at hR hn1 hu1
    clear hn1e
    have hsm := Lib.hid (fun W => small_any (s.take n1) W (by rw [List.length_take]; omega))
    have hto := Lib.hid (fun W => str_to s n1 hn1 W)
    obtain ⟨sch, hsch⟩ : ∃ sch, sch = s.take n1 := ⟨_, rfl⟩
    rw [← hsch] at hR hsm hto
    have hsl : sch.length ≤ 2048 := by rw [hsch, List.length_take]; omega
    clear hsch
    obtain ⟨K, hK⟩ : ∃ K, K = small sch := ⟨_, rfl⟩
    rw [← hK] at hR hsm
    clear hK
    obtain ⟨B, hB⟩ : ∃ B, B = decide (isHttp K = false ∨ s.length < n1 + 3 ∨ (s.take (n1 + 3)).drop n1 ≠ [58, 47, 47]) := ⟨_, rfl⟩
    have hR : R = if B = true then none else hostR sch (s.drop (n1 + 3)) := by
      rw [hR, hB]
      by_cases h : isHttp K = false ∨ s.length < n1 + 3 ∨ (s.take (n1 + 3)).drop n1 ≠ [58, 47, 47]
      · rw [if_pos h, if_pos (decide_eq_true h)]
      · rw [if_neg h, if_neg (by rw [decide_eq_false h]; decide)]
    have hok : B = false → n1 + 3 ≤ s.length := by
      intro h
      rw [hB] at h
      have := of_decide_eq_false h
      omega
    have HR3 := Lib.hid hR; have HB := Lib.hid hB; have HOK := Lib.hid hok
    clear hR hB hok
    go_enter Tryz.func15, Tryz.ntmps15
    go_upto_region 2 with fail
    obtain ⟨W0, hW0⟩ : ∃ W0, W0 = (w.alloc (.cells zcs.toArray 24)).alloc (.cells zcs.toArray 24) := ⟨_, rfl⟩
    rw [← hW0] at HP0
    rw [show (w.alloc (.cells #[.string ⟨#[]⟩, .string ⟨#[]⟩, .int .i64 0, .string ⟨#[]⟩, .string ⟨#[]⟩, .string ⟨#[]⟩, .bool false, .bool false] 24)).alloc (.cells #[.string ⟨#[]⟩, .string ⟨#[]⟩, .int .i64 0, .string ⟨#[]⟩, .string ⟨#[]⟩, .string ⟨#[]⟩, .bool false, .bool false] 24) = W0 from hW0.symm]
    clear hW0
    have hto1 := hto.out
    go_upto_region 6 with (first | (go_at_call 47; refine (hu1.out _).mono ?_; rintro e w1 ⟨rfl, hb1⟩; have HP1 := Lib.hid (HP0.out.call hb1); clear hb1) | (go_at_call 48; refine (hsm.out _).mono ?_; rintro e w2 ⟨rfl, hb1⟩; have HP2 := Lib.hid (HP1.out.call hb1); clear hb1))
    clear HP0 HP1 hu1 hsm
    go_cut [43] (fun v wx => v = .bool B ∧ wx = w2)
    case first =>
      as_aux_lemma =>
        have q1 : ((bs K).toList == [104, 116, 116, 112]) = (K == bHttp) := eq_bs K _
        have q2 : ((bs K).toList == [104, 116, 116, 112, 115]) = (K == bHttps) := eq_bs K _
        have q3 : ((bs K).toList != [104, 116, 116, 112]) = !(K == bHttp) := by rw [bne, q1]
        have q4 : ((bs K).toList != [104, 116, 116, 112, 115]) = !(K == bHttps) := by rw [bne, q2]
        have HBe : Hid (B = (!((K == bHttp) || (K == bHttps)) || decide (s.length < n1 + 3) || !((s.take (n1 + 3)).drop n1 == [58, 47, 47]))) := Lib.hid (by
          rw [HB.out, Bool.eq_iff_iff]
          unfold isHttp
          simp [or_assoc])
        clear HB
        by_cases h3 : s.length < n1 + 3
        · have t3 : decide ((s.length : Int) < (n1 : Int) + 3) = true := decide_eq_true (by omega)
          rw [decide_eq_true h3] at HBe
          clear h3
          cases hx1 : (K == bHttp) <;> cases hx2 : (K == bHttps)
          all_goals rw [hx1, hx2] at HBe
          all_goals rw [hx1] at q1 q3
          all_goals rw [hx2] at q2 q4
          all_goals clear hx1 hx2
          all_goals go_wp2_with fail
          all_goals go_meet
          all_goals exact ⟨by rw [HBe.out]; simp, rfl⟩
        · have t3 : decide ((s.length : Int) < (n1 : Int) + 3) = false := decide_eq_false (by omega)
          have hc3 : ∀ W, (Instr.slice 9 (.string (bs s)) (some (.int .i64 (n1 : Int))) (some (.int .i64 ((n1 : Int) + 3))) none).run Tryz.prog W = .ok (.string (bs ((s.take (n1 + 3)).drop n1))) W := fun W => str_cut s n1 (n1 + 3) (by omega) (by omega) W
          have q5 : ((bs ((s.take (n1 + 3)).drop n1)).toList == [58, 47, 47]) = ((s.take (n1 + 3)).drop n1 == [58, 47, 47]) := eq_bs _ _
          have q6 : ((bs ((s.take (n1 + 3)).drop n1)).toList != [58, 47, 47]) = !((s.take (n1 + 3)).drop n1 == [58, 47, 47]) := by rw [bne, q5]
          rw [decide_eq_false h3] at HBe
          clear h3
          generalize (s.take (n1 + 3)).drop n1 = T3 at *
          cases hx1 : (K == bHttp) <;> cases hx2 : (K == bHttps) <;> cases hx5 : (T3 == [58, 47, 47])
          all_goals rw [hx1, hx2, hx5] at HBe
          all_goals rw [hx1] at q1 q3
          all_goals rw [hx2] at q2 q4
          all_goals rw [hx5] at q5 q6
          all_goals clear hx1 hx2 hx5
          all_goals go_wp2_with fail
          all_goals go_meet
          all_goals exact ⟨by rw [HBe.out]; rfl, rfl⟩
    case rest =>
      as_aux_lemma =>
        obtain ⟨rfl, rfl⟩ := hcut
        cases B with
        | true =>
          have Hr := Lib.hid (HR3.out.trans (if_pos rfl))
          go_upto_region 7 with fail
          go_wp2_with (first | ((with_reducible refine atD 44 ?_); refine wpList_loadL rfl (.tmp 4) rfl (w.heap.size + 1) (by rfl) _ HP2.out.b rfl ?_) | ((with_reducible refine atS 2 44 ?_); refine wpList_storeL rfl (.tmp 2) (.tmp 44) rfl w.heap.size _ (by rfl) (by rfl) _ HP2.out.b2 rfl rfl rfl ?_; intro W9 hb9 ht9))
          refine bodyPost_ret (v := _) (results_link Tryz.results15 _ _ w.heap.size _ rfl hb9 rfl) rfl ?_
          exact ⟨by rw [HR.out, Hr.out]; rfl, ht9.below _ _ (Nat.le_refl _) HP2.out.bel⟩
        | false =>
          have hb3 := HOK.out rfl
          have Hr := Lib.hid (HR3.out.trans (if_neg (by decide)))
          have hfr : ∀ W, (Instr.slice 9 (.string (bs s)) (some (.int .i64 ((n1 : Int) + 3))) none none).run Tryz.prog W = .ok (.string (bs (s.drop (n1 + 3)))) W := fun W => str_from s (n1 + 3) hb3 W
          obtain ⟨rest, hrest⟩ : ∃ rest, rest = s.drop (n1 + 3) := ⟨_, rfl⟩
          rw [← hrest] at Hr
          simp only [← hrest] at hfr
          have hrl : rest.length ≤ 2048 := by rw [hrest, List.length_drop]; omega
          clear hrest HOK HR3
          have hR := Hr.out.trans (hostR_stop sch rest)
          have hn2 := stop_le [58, 47, 63, 35] rest
          have hu2 := Lib.hid (fun W => until_any rest [58, 47, 63, 35] W (by omega) (by decide))
          obtain ⟨n2, hn2e⟩ : ∃ n2, n2 = stop [58, 47, 63, 35] rest := ⟨_, rfl⟩
          rw [← hn2e] at hR hn2 hu2
          clear hn2e
          have hto2 := fun W => str_to rest n2 hn2 W
          have hfr2 := Lib.hid (fun W => str_from rest n2 hn2 W)
          have HX := Lib.hid (fun (i : Nat) (h : i < rest.length) (W : World) => str_byte rest i h W)
          have hzr : (bs rest).size = rest.length := bs_size rest
          have HR4 := Lib.hid hR
          clear hR Hr
          go_upto_region 12 with (first | ((with_reducible refine atS 48 47 ?_); refine wpList_storeC rfl 9 (.tmp 48) (.tmp 47) rfl (w.heap.size + 1) 0 (.string (bs sch)) (by rfl) (by rfl) rfl info9 24 _ HP2.out.b (by exact Nat.le_of_ble_eq_true rfl) ?_; intro W1 hb1 ht1; have HP3 := Lib.hid (HP2.out.set hb1 ht1); clear hb1 ht1) | (go_at_call 47; refine (hu2.out _).mono ?_; rintro e w3 ⟨rfl, hb1⟩; have HP4 := Lib.hid (HP3.out.call hb1); clear hb1) | ((with_reducible refine atS 58 57 ?_); refine wpList_storeC rfl 9 (.tmp 58) (.tmp 57) rfl (w.heap.size + 1) 1 (.string (bs (rest.take n2))) (by rfl) (by rfl) rfl info9 24 _ HP4.out.b (by exact Nat.le_of_ble_eq_true rfl) ?_; intro W2 hb1 ht1; have HP5 := Lib.hid (HP4.out.set hb1 ht1); clear hb1 ht1))
          clear HP2 HP3 HP4 hu2 hto hto1 hfr hto2
          go_wp2_with fail
          go_loop [7] (fun i => ∃ j : Nat, i = .int .i64 (j : Int) ∧ j ≤ n2 ∧ Hid ((rest.take j).all hostB = true)) (fun i => n2 - (intOf i).toNat)
          case atStart => exact ⟨0, rfl, Nat.zero_le _, Lib.hid rfl⟩
          case round =>
            as_aux_lemma =>
              obtain ⟨j, rfl, hj, HA⟩ := hrel
              by_cases hjn : j < n2
              · have tj : decide ((j : Int) < (n2 : Int)) = true := by rw [decide_eq_true_eq]; omega
                have hjl : j < rest.length := by omega
                have hx := fun W => HX.out j hjl W
                have hts : rest.take (j + 1) = rest.take j ++ [rest.getD j 0] := by rw [List.take_succ_eq_append_getElem hjl]; simp [hjl]
                have hC := rletter_any (rest.getD j 0)
                have hmem : rest.getD j 0 ∈ rest.take n2 := by
                  have e : rest.getD j 0 = (rest.take n2)[j]'(by rw [List.length_take]; omega) := by simp [hjl]
                  rw [e]
                  exact List.getElem_mem _
                obtain ⟨c, hc⟩ : ∃ c, c = rest.getD j 0 := ⟨_, rfl⟩
                rw [← hc] at hts hC hmem
                simp only [← hc] at hx
                have HTS := Lib.hid hts; have HM := Lib.hid hmem
                clear hc hts hjl hmem
                unfold u8v at hC
                have q1 : (((c.toNat : Nat) : Int) != 45) = !(c == 45) := congrArg (!·) (u8_beq c 45 45 rfl)
                have q2 : (((c.toNat : Nat) : Int) != 46) = !(c == 46) := congrArg (!·) (u8_beq c 46 46 rfl)
                have hpe : hostB c = (alB c || c == 45 || c == 46) := rfl
                cases ha : alB c <;> cases h1 : (c == 45) <;> cases h2 : (c == 46)
                all_goals rw [ha, h1, h2] at hpe
                all_goals rw [ha] at hC
                all_goals rw [h1] at q1
                all_goals rw [h2] at q2
                all_goals have HC := Lib.hid hC
                all_goals have HPE := Lib.hid hpe
                all_goals clear ha h1 h2 hC hpe
                case false.false.false =>
                  have hf : (rest.take n2).all hostB = false := by
                    cases h : (rest.take n2).all hostB with
                    | false => rfl
                    | true => exact absurd (List.all_eq_true.1 h c HM.out) (by rw [HPE.out]; decide)
                  have Hr := Lib.hid (HR4.out.trans (if_pos hf))
                  clear hf
                  go_upto_region 16 with (go_at_call 49; refine (HC.out _).mono ?_; rintro e w9 ⟨rfl, rfl⟩)
                  go_wp2_with ((with_reducible refine atS 2 81 ?_); refine wpList_storeL rfl (.tmp 2) (.tmp 81) rfl w.heap.size _ (by rfl) (by rfl) _ HP5.out.b2 rfl rfl rfl ?_; intro W9 hb9 ht9)
                  refine bodyPost_ret (v := _) (results_link Tryz.results15 _ _ w.heap.size _ rfl hb9 rfl) rfl ?_
                  exact ⟨by rw [HR.out, Hr.out]; rfl, ht9.below _ _ (Nat.le_refl _) HP5.out.bel⟩
                all_goals have E1 := Lib.hid (show (rest.take (j + 1)).all hostB = true by rw [HTS.out, List.all_append, HA.out]; simp [HPE.out])
                all_goals go_wp2_with (go_at_call 49; refine (HC.out _).mono ?_; rintro e w9 ⟨rfl, rfl⟩)
                all_goals exact ⟨⟨j + 1, by go_num, by omega, E1⟩, by simp [intOf]; omega⟩
              · obtain rfl : j = n2 := by omega
                have hR := HR4.out
                rw [if_neg (by rw [HA.out]; decide)] at hR
                have tj : decide ((j : Int) < (j : Int)) = false := by rw [decide_eq_false_iff_not]; omega
                clear HA HR4 HX hzr
                by_cases h1 : j < 1
                · have Hr := Lib.hid (hR.trans (if_pos (.inl h1)))
                  have t1 : decide ((j : Int) < 1) = true := decide_eq_true (by omega)
                  clear hR h1
                  go_upto_region 18 with fail
                  go_wp2_with ((with_reducible refine atS 2 88 ?_); refine wpList_storeL rfl (.tmp 2) (.tmp 88) rfl w.heap.size _ (by rfl) (by rfl) _ HP5.out.b2 rfl rfl rfl ?_; intro W9 hb9 ht9)
                  refine bodyPost_ret (v := _) (results_link Tryz.results15 _ _ w.heap.size _ rfl hb9 rfl) rfl ?_
                  exact ⟨by rw [HR.out, Hr.out]; rfl, ht9.below _ _ (Nat.le_refl _) HP5.out.bel⟩
                · by_cases h2 : 253 < j
                  · have Hr := Lib.hid (hR.trans (if_pos (.inr h2)))
                    have t1 : decide ((j : Int) < 1) = false := decide_eq_false (by omega)
                    have t2 : decide ((j : Int) > 253) = true := decide_eq_true (by omega)
                    clear hR h1 h2
                    go_upto_region 18 with fail
                    go_wp2_with ((with_reducible refine atS 2 88 ?_); refine wpList_storeL rfl (.tmp 2) (.tmp 88) rfl w.heap.size _ (by rfl) (by rfl) _ HP5.out.b2 rfl rfl rfl ?_; intro W9 hb9 ht9)
                    refine bodyPost_ret (v := _) (results_link Tryz.results15 _ _ w.heap.size _ rfl hb9 rfl) rfl ?_
                    exact ⟨by rw [HR.out, Hr.out]; rfl, ht9.below _ _ (Nat.le_refl _) HP5.out.bel⟩
                  · have t1 : decide ((j : Int) < 1) = false := decide_eq_false (by omega)
                    have t2 : decide ((j : Int) > 253) = false := decide_eq_false (by omega)
                    have Hr := Lib.hid (hR.trans (if_neg (by omega)))
                    clear hR h1 h2
                    have hfr3 := hfr2.out
                    have HP6 : Hid (PW w W2 zcs (lcs ⟨sch, rest.take j, 0, [], [], [], false, false⟩)) := HP5
                    have htl : (rest.drop j).length ≤ 2048 := by rw [List.length_drop]; omega
                    clear HP5 hfr2
                    go_upto_region 20 with fail
                    clear hfr3
                    generalize rest.take j = hst at *
                    generalize rest.drop j = t at *
                    have hzt : (bs t).size = t.length := bs_size t
                    obtain ⟨B4, hB4⟩ : ∃ B4, B4 = (decide (0 < t.length) && (t.getD 0 0 == 58)) := ⟨_, rfl⟩
                    have HB4 := Lib.hid hB4
                    clear hB4
                    go_cut [99] (fun v wx => v = .bool B4 ∧ wx = W2)
                    case first =>
                      as_aux_lemma =>
                        by_cases h0 : t.length = 0
                        · have tl : decide ((t.length : Int) > 0) = false := decide_eq_false (by omega)
                          have tl2 : decide (0 < t.length) = false := decide_eq_false (by omega)
                          have hb : B4 = false := by rw [HB4.out, decide_eq_false (by omega)]; rfl
                          have Hb := Lib.hid hb
                          clear hb h0
                          go_wp2_with fail
                          go_meet
                          exact ⟨by rw [Hb.out], rfl⟩
                        · have tl : decide ((t.length : Int) > 0) = true := decide_eq_true (by omega)
                          have tl2 : decide (0 < t.length) = true := decide_eq_true (by omega)
                          have hx : ∀ W, (Instr.index 9 (.string (bs t)) (.int .i64 0)).run Tryz.prog W = .ok (.int .u8 (((t.getD 0 0).toNat : Nat) : Int)) W := fun W => str_byte t 0 (by omega) W
                          have hb := HB4.out
                          rw [decide_eq_true (by omega), Bool.true_and] at hb
                          obtain ⟨c, hc⟩ : ∃ c, c = t.getD 0 0 := ⟨_, rfl⟩
                          rw [← hc] at hb
                          simp only [← hc] at hx
                          clear hc h0
                          have q58 : (((c.toNat : Nat) : Int) == 58) = (c == 58) := u8_beq c 58 58 rfl
                          cases h58 : (c == 58)
                          all_goals rw [h58] at q58 hb
                          all_goals have Hb := Lib.hid hb
                          all_goals clear hb h58
                          all_goals go_wp2_with fail
                          all_goals go_meet
                          all_goals exact ⟨by first | (rw [Hb.out]; done) | (rw [Hb.out]; rfl), rfl⟩
                    case rest =>
                      as_aux_lemma =>
                        obtain ⟨rfl, rfl⟩ := hcut
                        go_upto_if 99 with fail
                        go_cut [0] (fun v wx => ∃ (t' : Bs) (p : Nat), v = .string (bs t') ∧ t'.length ≤ 2048 ∧ Hid (R = endR sch hst p t') ∧ Hid (PW w wx zcs (lcs ⟨sch, hst, p, [], [], [], false, false⟩)))
                        case first =>
                          as_aux_lemma =>
                            cases B4 with
                            | false =>
                              have ht : ∀ u, t ≠ 58 :: u := by
                                rintro u rfl
                                have := HB4.out
                                simp at this
                              have hR := Hr.out.trans (afterR_no sch hst t ht)
                              have HRx := Lib.hid hR
                              clear hR ht
                              go_wp2_with fail
                              go_meet
                              exact ⟨t, 0, rfl, htl, HRx, HP6⟩
                            | true =>
                              obtain ⟨u, hu⟩ : ∃ u, t = 58 :: u := by
                                have h := HB4.out
                                cases t with
                                | nil => cases h
                                | cons c r => simp at h; exact ⟨r, by rw [← h]⟩
                              have hf1 : ∀ W, (Instr.slice 9 (.string (bs t)) (some (.int .i64 1)) none none).run Tryz.prog W = .ok (.string (bs u)) W := fun W => (str_from t 1 (by rw [hu]; simp) W).trans (by rw [hu]; rfl)
                              have hul : u.length ≤ 2047 := by rw [hu] at htl; simp at htl; omega
                              have hnum : Hid (∀ W, Calls Tryz.prog 50 #[.string (bs u), .int .i64 10, .int .i64 5] W fun e w' => e = .returned (.tuple #[.int .i64 (((numR 10 5 u).1 : Nat) : Int), .int .i64 (((numR 10 5 u).2 : Nat) : Int)]) ∧ Below W.heap.size W w') := Lib.hid (fun W => number_any u 10 5 (.inl ⟨rfl, rfl⟩) W (by omega))
                              have hR : R = if (numR 10 5 u).2 = 0 ∨ u.head? = some 48 ∨ 65535 < (numR 10 5 u).1 then none else endR sch hst (numR 10 5 u).1 (u.drop (numR 10 5 u).2) := by rw [Hr.out, hu]; rfl
                              have hkl := numR_bd 10 5 u
                              have hkc := numGo_cap 10 5 u 0 0
                              have hkc : (numR 10 5 u).2 ≤ 5 := by unfold numR; omega
                              generalize (numR 10 5 u).1 = p at *
                              generalize (numR 10 5 u).2 = k at *
                              clear hu Hr
                              go_upto_region 23 with (go_at_call 50; refine (hnum.out _).mono ?_; rintro e w5 ⟨rfl, hb1⟩; have HP7 := Lib.hid (HP6.out.call hb1); clear hb1)
                              clear HP6 hf1 hnum
                              have hzu : (bs u).size = u.length := bs_size u
                              by_cases hk : k = 0
                              · have Hr := Lib.hid (hR.trans (if_pos (.inl hk)))
                                have t1 : ((k : Int) == 0) = true := by rw [hk]; rfl
                                clear hR hk hkl
                                go_upto_region 24 with fail
                                go_wp2_with ((with_reducible refine atS 2 119 ?_); refine wpList_storeL rfl (.tmp 2) (.tmp 119) rfl w.heap.size _ (by rfl) (by rfl) _ HP7.out.b2 rfl rfl rfl ?_; intro W9 hb9 ht9)
                                refine bodyPost_ret (v := _) (results_link Tryz.results15 _ _ w.heap.size _ rfl hb9 rfl) rfl ?_
                                exact ⟨by rw [HR.out, Hr.out]; rfl, ht9.below _ _ (Nat.le_refl _) HP7.out.bel⟩
                              · have t1 : ((k : Int) == 0) = false := by rw [beq_eq_false_iff_ne]; omega
                                have hx : ∀ W, (Instr.index 9 (.string (bs u)) (.int .i64 0)).run Tryz.prog W = .ok (.int .u8 (((u.getD 0 0).toNat : Nat) : Int)) W := fun W => str_byte u 0 (by omega) W
                                have hh : u.head? = some (u.getD 0 0) := by cases u with
                                  | nil => simp at hkl; omega
                                  | cons c r => rfl
                                obtain ⟨c, hc⟩ : ∃ c, c = u.getD 0 0 := ⟨_, rfl⟩
                                rw [← hc] at hh
                                simp only [← hc] at hx
                                clear hc
                                have q1 : (((c.toNat : Nat) : Int) == 48) = (c == 48) := u8_beq c 48 48 rfl
                                rw [hh] at hR
                                clear hh
                                cases h48 : (c == 48) with
                                | true =>
                                  have Hr := Lib.hid (hR.trans (if_pos (.inr (.inl (by rw [beq_iff_eq.1 h48])))))
                                  rw [h48] at q1
                                  clear hR hk hkl h48
                                  go_upto_region 24 with fail
                                  go_wp2_with ((with_reducible refine atS 2 119 ?_); refine wpList_storeL rfl (.tmp 2) (.tmp 119) rfl w.heap.size _ (by rfl) (by rfl) _ HP7.out.b2 rfl rfl rfl ?_; intro W9 hb9 ht9)
                                  refine bodyPost_ret (v := _) (results_link Tryz.results15 _ _ w.heap.size _ rfl hb9 rfl) rfl ?_
                                  exact ⟨by rw [HR.out, Hr.out]; rfl, ht9.below _ _ (Nat.le_refl _) HP7.out.bel⟩
                                | false =>
                                  rw [h48] at q1
                                  by_cases hp : 65535 < p
                                  · have Hr := Lib.hid (hR.trans (if_pos (.inr (.inr hp))))
                                    have t2 : decide ((p : Int) > 65535) = true := decide_eq_true (by omega)
                                    clear hR hk hkl h48 hp
                                    go_upto_region 24 with fail
                                    go_wp2_with ((with_reducible refine atS 2 119 ?_); refine wpList_storeL rfl (.tmp 2) (.tmp 119) rfl w.heap.size _ (by rfl) (by rfl) _ HP7.out.b2 rfl rfl rfl ?_; intro W9 hb9 ht9)
                                    refine bodyPost_ret (v := _) (results_link Tryz.results15 _ _ w.heap.size _ rfl hb9 rfl) rfl ?_
                                    exact ⟨by rw [HR.out, Hr.out]; rfl, ht9.below _ _ (Nat.le_refl _) HP7.out.bel⟩
                                  · have HRx := Lib.hid (hR.trans (if_neg (by
                                      rintro (h | h | h)
                                      · exact hk h
                                      · injection h with h; rw [h] at h48; cases h48
                                      · exact hp h)))
                                    have t2 : decide ((p : Int) > 65535) = false := decide_eq_false (by omega)
                                    have hf2 := fun W => str_from u k hkl W
                                    clear hR hk h48 hp
                                    go_wp2_with ((with_reducible refine atS 121 120 ?_); refine wpList_storeC rfl 3 (.tmp 121) (.tmp 120) rfl (w.heap.size + 1) 2 (.int .i64 ((p : Nat) : Int)) (by rfl) (by rfl) rfl info3 24 _ HP7.out.b (by exact Nat.le_of_ble_eq_true rfl) ?_; intro W3 hb1 ht1; have HP8 := Lib.hid (HP7.out.set hb1 ht1); clear hb1 ht1)
                                    go_meet
                                    exact ⟨u.drop k, p, rfl, by rw [List.length_drop]; omega, HRx, HP8⟩
                        case rest =>
                          as_aux_lemma =>
                            obtain ⟨t', p, rfl, htl', HR5, HP7⟩ := hcut
                            clear HP6 Hr HB4 hzt htl
                            have hzt : (bs t').size = t'.length := bs_size t'
                            obtain ⟨B5, hB5⟩ : ∃ B5, B5 = (decide (0 < t'.length) && (!(t'.getD 0 0 == 47) && (!(t'.getD 0 0 == 63) && !(t'.getD 0 0 == 35)))) := ⟨_, rfl⟩
                            have HB5 := Lib.hid hB5
                            clear hB5
                            go_upto_region 27 with fail
                            go_cut [142] (fun v wx => v = .bool B5 ∧ wx = wc)
                            case first =>
                              as_aux_lemma =>
                                by_cases h0 : t'.length = 0
                                · have tl : decide ((t'.length : Int) > 0) = false := decide_eq_false (by omega)
                                  have tl2 : decide (0 < t'.length) = false := decide_eq_false (by omega)
                                  have hb : B5 = false := by rw [HB5.out, decide_eq_false (by omega)]; rfl
                                  have Hb := Lib.hid hb
                                  clear hb h0
                                  go_wp2_with fail
                                  go_meet
                                  exact ⟨by rw [Hb.out], rfl⟩
                                · have tl : decide ((t'.length : Int) > 0) = true := decide_eq_true (by omega)
                                  have tl2 : decide (0 < t'.length) = true := decide_eq_true (by omega)
                                  have hx : ∀ W, (Instr.index 9 (.string (bs t')) (.int .i64 0)).run Tryz.prog W = .ok (.int .u8 (((t'.getD 0 0).toNat : Nat) : Int)) W := fun W => str_byte t' 0 (by omega) W
                                  have hb := HB5.out
                                  rw [decide_eq_true (by omega), Bool.true_and] at hb
                                  obtain ⟨c, hc⟩ : ∃ c, c = t'.getD 0 0 := ⟨_, rfl⟩
                                  rw [← hc] at hb
                                  simp only [← hc] at hx
                                  clear hc h0
                                  have q47 : (((c.toNat : Nat) : Int) != 47) = !(c == 47) := congrArg (!·) (u8_beq c 47 47 rfl)
                                  have q63 : (((c.toNat : Nat) : Int) != 63) = !(c == 63) := congrArg (!·) (u8_beq c 63 63 rfl)
                                  have q35 : (((c.toNat : Nat) : Int) != 35) = !(c == 35) := congrArg (!·) (u8_beq c 35 35 rfl)
                                  cases h47 : (c == 47) <;> cases h63 : (c == 63) <;> cases h35 : (c == 35)
                                  all_goals rw [h47] at q47 hb
                                  all_goals rw [h63] at q63 hb
                                  all_goals rw [h35] at q35 hb
                                  all_goals have Hb := Lib.hid hb
                                  all_goals clear hb h47 h63 h35
                                  all_goals go_wp2_with fail
                                  all_goals go_meet
                                  all_goals exact ⟨by first | (rw [Hb.out]; done) | (rw [Hb.out]; rfl), rfl⟩
                            case rest =>
                              as_aux_lemma =>
                                obtain ⟨rfl, rfl⟩ := hcut
                                cases B5 with
                                | true =>
                                  have hr : R = none := by
                                    have h := HB5.out
                                    rw [HR5.out]
                                    cases t' with
                                    | nil => cases h
                                    | cons c r => simp at h; exact endR_bad h.1 h.2.1 h.2.2
                                  have Hr := Lib.hid hr
                                  clear hr
                                  go_upto_region 28 with fail
                                  go_wp2_with ((with_reducible refine atS 2 143 ?_); refine wpList_storeL rfl (.tmp 2) (.tmp 143) rfl w.heap.size _ (by rfl) (by rfl) _ HP7.out.b2 rfl rfl rfl ?_; intro W9 hb9 ht9)
                                  refine bodyPost_ret (v := _) (results_link Tryz.results15 _ _ w.heap.size _ rfl hb9 rfl) rfl ?_
                                  exact ⟨by rw [HR.out, Hr.out]; rfl, ht9.below _ _ (Nat.le_refl _) HP7.out.bel⟩
                                | false =>
                                  have hok : ∀ c r, t' = c :: r → c = 47 ∨ c = 63 ∨ c = 35 := by
                                    rintro c r rfl
                                    have h := HB5.out
                                    simp at h
                                    by_cases h1 : c = 47
                                    · exact .inl h1
                                    · by_cases h2 : c = 63
                                      · exact .inr (.inl h2)
                                      · exact .inr (.inr (h h1 h2))
                                  have HOK := Lib.hid hok
                                  clear hok HB5
                                  have HX := Lib.hid (fun (i : Nat) (h : i < t'.length) (W : World) => str_byte t' i h W)
                                  go_wp2_with fail
                                  go_loopw [10] (fun i wr => ∃ j : Nat, i = .int .i64 (j : Int) ∧ j ≤ t'.length ∧ Hid (rightR (t'.drop j) = rightR t') ∧ Hid (PW w wr zcs (lcs ⟨sch, hst, p, [], [], [], false, false⟩))) (fun i _ => t'.length - (intOf i).toNat)
                                  case atStart => exact ⟨0, rfl, Nat.zero_le _, Lib.hid rfl, HP7⟩
                                  case round =>
                                    as_aux_lemma =>
                                      obtain ⟨j, rfl, hj, HA, HP8⟩ := hrel
                                      clear HP7
                                      by_cases hjn : j < t'.length
                                      · have tj : decide ((j : Int) < (t'.length : Int)) = true := by rw [decide_eq_true_eq]; omega
                                        have hx := fun W => HX.out j hjn W
                                        have hst := rightR_step t' j hjn
                                        have hone : ∀ W, (Instr.slice 9 (.string (bs t')) (some (.int .i64 (j : Int))) (some (.int .i64 ((j : Int) + 1))) none).run Tryz.prog W = .ok (.string (bs [t'.getD j 0])) W := fun W => (str_cut t' j (j + 1) (by omega) (by omega) W).trans (by
                                          rw [List.drop_take, show j + 1 - j = 1 by omega, List.drop_eq_getElem_cons hjn, show t'.getD j 0 = t'[j] by simp [hjn]]
                                          rfl)
                                        have hfr : ∀ W, (Instr.slice 9 (.string (bs t')) (some (.int .i64 ((j : Int) + 1))) none none).run Tryz.prog W = .ok (.string (bs (t'.drop (j + 1)))) W := fun W => str_from t' (j + 1) (by omega) W
                                        have hdl : (t'.drop (j + 1)).length ≤ 2048 := by rw [List.length_drop]; omega
                                        obtain ⟨c, hc⟩ : ∃ c, c = t'.getD j 0 := ⟨_, rfl⟩
                                        rw [← hc] at hst
                                        simp only [← hc] at hx hone
                                        clear hc
                                        have hu : Hid (∀ W, Calls Tryz.prog 47 #[.string (bs [c]), .string (bs marksB)] W fun e w' => e = .returned (.int .i64 (if marksB.contains c = true then 0 else 1)) ∧ Below W.heap.size W w') := Lib.hid (fun W => (until_any [c] marksB W (by simp) (by decide)).mono (by
                                          rintro e w' ⟨rfl, h⟩
                                          rw [stop_one]
                                          refine ⟨?_, h⟩
                                          split <;> rfl))
                                        have hnum : Hid (∀ W, Calls Tryz.prog 50 #[.string (bs (t'.drop (j + 1))), .int .i64 16, .int .i64 2] W fun e w' => e = .returned (.tuple #[.int .i64 (((numR 16 2 (t'.drop (j + 1))).1 : Nat) : Int), .int .i64 (((numR 16 2 (t'.drop (j + 1))).2 : Nat) : Int)]) ∧ Below W.heap.size W w') := Lib.hid (fun W => number_any (t'.drop (j + 1)) 16 2 (.inr ⟨rfl, rfl⟩) W (by omega))
                                        clear hj
                                        obtain ⟨K, hK⟩ : ∃ K, K = (numR 16 2 (t'.drop (j + 1))).2 := ⟨_, rfl⟩
                                        rw [← hK] at hst hnum
                                        clear hK
                                        obtain ⟨N, hN⟩ : ∃ N, N = (numR 16 2 (t'.drop (j + 1))).1 := ⟨_, rfl⟩
                                        rw [← hN] at hnum
                                        clear hN
                                        generalize bs (t'.drop (j + 1)) = SD at *
                                        obtain ⟨m, hm⟩ : ∃ m, m = marksB.contains c := ⟨_, rfl⟩
                                        rw [← hm] at hst hu
                                        clear hm
                                        have HST := Lib.hid hst
                                        clear hst hdl
                                        obtain ⟨cn, hcn⟩ : ∃ cn : Int, cn = ((c.toNat : Nat) : Int) := ⟨_, rfl⟩
                                        simp only [← hcn] at hx
                                        have HBAD : Hid (rightR (t'.drop j) = false → R = none) := Lib.hid (fun h => HR5.out.trans (endR_wrong (by rw [← HA.out]; exact h)))
                                        by_cases b1 : c.toNat < 33
                                        · have t1 : decide (cn < 33) = true := decide_eq_true (by omega)
                                          have Hr := Lib.hid (HBAD.out (by rw [HST.out, decide_eq_false (by omega)]; rfl))
                                          have HPz := HP8
                                          clear hcn b1
                                          go_upto_region 33 with fail
                                          go_wp2_with ((with_reducible refine atS 2 169 ?_); refine wpList_storeL rfl (.tmp 2) (.tmp 169) rfl w.heap.size _ (by rfl) (by rfl) _ HPz.out.b2 rfl rfl rfl ?_; intro W9 hb9 ht9)
                                          refine bodyPost_ret (v := _) (results_link Tryz.results15 _ _ w.heap.size _ rfl hb9 rfl) rfl ?_
                                          exact ⟨by rw [HR.out, Hr.out]; rfl, ht9.below _ _ (Nat.le_refl _) HPz.out.bel⟩
                                        · have t1 : decide (cn < 33) = false := decide_eq_false (by omega)
                                          by_cases b2 : 126 < c.toNat
                                          · have t2 : decide (cn > 126) = true := decide_eq_true (by omega)
                                            have Hr := Lib.hid (HBAD.out (by rw [HST.out, decide_eq_true (by omega), decide_eq_false (by omega : ¬ c.toNat ≤ 126)]; rfl))
                                            have HPz := HP8
                                            clear hcn b1 b2
                                            go_upto_region 33 with fail
                                            go_wp2_with ((with_reducible refine atS 2 169 ?_); refine wpList_storeL rfl (.tmp 2) (.tmp 169) rfl w.heap.size _ (by rfl) (by rfl) _ HPz.out.b2 rfl rfl rfl ?_; intro W9 hb9 ht9)
                                            refine bodyPost_ret (v := _) (results_link Tryz.results15 _ _ w.heap.size _ rfl hb9 rfl) rfl ?_
                                            exact ⟨by rw [HR.out, Hr.out]; rfl, ht9.below _ _ (Nat.le_refl _) HPz.out.bel⟩
                                          · have t2 : decide (cn > 126) = false := decide_eq_false (by omega)
                                            have hst := HST.out
                                            rw [decide_eq_true (by omega : 33 ≤ c.toNat), decide_eq_true (by omega : c.toNat ≤ 126), Bool.true_and, Bool.true_and] at hst
                                            have HST2 := Lib.hid hst
                                            clear hst HST
                                            cases m with
                                            | true =>
                                              have Hr := Lib.hid (HBAD.out (by rw [HST2.out]; rfl))
                                              have hu : Hid (∀ W, Calls Tryz.prog 47 #[.string (bs [c]), .string (bs marksB)] W fun e w' => e = .returned (.int .i64 0) ∧ Below W.heap.size W w') := hu
                                              clear hcn b1 b2
                                              go_upto_region 33 with (go_at_call 47; refine (hu.out _).mono ?_; rintro e w6 ⟨rfl, hb1⟩; have HPz := Lib.hid (HP8.out.call hb1); clear hb1)
                                              go_wp2_with ((with_reducible refine atS 2 169 ?_); refine wpList_storeL rfl (.tmp 2) (.tmp 169) rfl w.heap.size _ (by rfl) (by rfl) _ HPz.out.b2 rfl rfl rfl ?_; intro W9 hb9 ht9)
                                              refine bodyPost_ret (v := _) (results_link Tryz.results15 _ _ w.heap.size _ rfl hb9 rfl) rfl ?_
                                              exact ⟨by rw [HR.out, Hr.out]; rfl, ht9.below _ _ (Nat.le_refl _) HPz.out.bel⟩
                                            | false =>
                                              have hu : Hid (∀ W, Calls Tryz.prog 47 #[.string (bs [c]), .string (bs marksB)] W fun e w' => e = .returned (.int .i64 1) ∧ Below W.heap.size W w') := hu
                                              have q37 : (cn == 37) = (c == 37) := by rw [hcn]; exact u8_beq c 37 37 rfl
                                              cases h37 : (c == 37) with
                                              | false =>
                                                rw [h37] at q37
                                                have E1 := Lib.hid (show rightR (t'.drop (j + 1)) = rightR t' by rw [← HA.out, HST2.out, show (c != 37) = true from by rw [bne, h37]; rfl]; simp)
                                                clear hcn b1 b2 h37
                                                go_wp2_with (go_at_call 47; refine (hu.out _).mono ?_; rintro e w6 ⟨rfl, hb1⟩; have HPz := Lib.hid (HP8.out.call hb1); clear hb1)
                                                exact ⟨⟨j + 1, by go_num, by omega, E1, HPz⟩, by simp [intOf]; omega⟩
                                              | true =>
                                                rw [h37] at q37
                                                have hst := HST2.out
                                                rw [show (c != 37) = false from by rw [bne, h37]; rfl] at hst
                                                have HST3 := Lib.hid hst
                                                clear hst HST2
                                                by_cases hk : K < 2
                                                · have t3 : decide ((K : Int) < 2) = true := decide_eq_true (by omega)
                                                  have Hr := Lib.hid (HBAD.out (by rw [HST3.out, decide_eq_true hk]; rfl))
                                                  clear hcn b1 b2 h37 hk
                                                  go_upto_region 37 with (first | (go_at_call 47; refine (hu.out _).mono ?_; rintro e w6 ⟨rfl, hb1⟩; have HPy := Lib.hid (HP8.out.call hb1); clear hb1) | (go_at_call 50; refine (hnum.out _).mono ?_; rintro e w7 ⟨rfl, hb1⟩; have HPz := Lib.hid (HPy.out.call hb1); clear hb1))
                                                  go_wp2_with ((with_reducible refine atS 2 184 ?_); refine wpList_storeL rfl (.tmp 2) (.tmp 184) rfl w.heap.size _ (by rfl) (by rfl) _ HPz.out.b2 rfl rfl rfl ?_; intro W9 hb9 ht9)
                                                  refine bodyPost_ret (v := _) (results_link Tryz.results15 _ _ w.heap.size _ rfl hb9 rfl) rfl ?_
                                                  exact ⟨by rw [HR.out, Hr.out]; rfl, ht9.below _ _ (Nat.le_refl _) HPz.out.bel⟩
                                                · have t3 : decide ((K : Int) < 2) = false := decide_eq_false (by omega)
                                                  have E1 := Lib.hid (show rightR (t'.drop (j + 1)) = rightR t' by rw [← HA.out, HST3.out, decide_eq_false hk]; simp)
                                                  clear hcn b1 b2 h37 hk
                                                  go_wp2_with (first | (go_at_call 47; refine (hu.out _).mono ?_; rintro e w6 ⟨rfl, hb1⟩; have HPy := Lib.hid (HP8.out.call hb1); clear hb1) | (go_at_call 50; refine (hnum.out _).mono ?_; rintro e w7 ⟨rfl, hb1⟩; have HPz := Lib.hid (HPy.out.call hb1); clear hb1))
                                                  exact ⟨⟨j + 1, by go_num, by omega, E1, HPz⟩, by simp [intOf]; omega⟩
                                      · obtain rfl : j = t'.length := by omega
                                        have tj : decide ((t'.length : Int) < (t'.length : Int)) = false := by rw [decide_eq_false_iff_not]; omega
                                        have hright : rightR t' = true := by rw [← HA.out, List.drop_length]; rfl
                                        have Hr := Lib.hid (HR5.out.trans (endR_ok HOK.out hright))
                                        clear HA HOK hright HX HR5
                                        have hn3 := stop_le [63, 35] t'
                                        have hu3 := Lib.hid (fun W => until_any t' [63, 35] W (by omega) (by decide))
                                        obtain ⟨n3, hn3e⟩ : ∃ n3, n3 = stop [63, 35] t' := ⟨_, rfl⟩
                                        rw [← hn3e] at hn3 hu3 Hr
                                        clear hn3e
                                        have hto3 := fun W => str_to t' n3 hn3 W
                                        have hfr3 := fun W => str_from t' n3 hn3 W
                                        have hvl : (t'.drop n3).length ≤ 2048 := by rw [List.length_drop]; omega
                                        go_upto_region 41 with (first | (go_at_call 47; refine (hu3.out _).mono ?_; rintro e w8 ⟨rfl, hb1⟩; have HP9 := Lib.hid (HP8.out.call hb1); clear hb1) | ((with_reducible refine atS 190 189 ?_); refine wpList_storeC rfl 9 (.tmp 190) (.tmp 189) rfl (w.heap.size + 1) 3 (.string (bs (t'.take n3))) (by rfl) (by rfl) rfl info9 24 _ HP9.out.b (by exact Nat.le_of_ble_eq_true rfl) ?_; intro W4 hb1 ht1; have HPA := Lib.hid (HP9.out.set hb1 ht1); clear hb1 ht1))
                                        clear HP8 HP9 hu3 hto3 hfr3
                                        have HP := (show Hid (PW w W4 zcs (lcs ⟨sch, hst, p, t'.take n3, [], [], false, false⟩)) from HPA)
                                        clear HPA hzt tj
                                        generalize t'.take n3 = pth at *
                                        generalize t'.drop n3 = v at *
                                        clear htl' hn3
                                        have hzv : (bs v).size = v.length := bs_size v
                                        obtain ⟨B6, hB6⟩ : ∃ B6, B6 = (decide (0 < v.length) && (v.getD 0 0 == 63)) := ⟨_, rfl⟩
                                        have HB6 := Lib.hid hB6
                                        clear hB6
                                        go_cut [201] (fun x wx => x = .bool B6 ∧ wx = W4)
                                        case first =>
                                          as_aux_lemma =>
                                            by_cases h0 : v.length = 0
                                            · have tl : decide ((v.length : Int) > 0) = false := decide_eq_false (by omega)
                                              have tl2 : decide (0 < v.length) = false := decide_eq_false (by omega)
                                              have hb : B6 = false := by rw [HB6.out, decide_eq_false (by omega)]; rfl
                                              have Hb := Lib.hid hb
                                              clear hb h0
                                              go_wp2_with fail
                                              go_meet
                                              exact ⟨by rw [Hb.out], rfl⟩
                                            · have tl : decide ((v.length : Int) > 0) = true := decide_eq_true (by omega)
                                              have tl2 : decide (0 < v.length) = true := decide_eq_true (by omega)
                                              have hx : ∀ W, (Instr.index 9 (.string (bs v)) (.int .i64 0)).run Tryz.prog W = .ok (.int .u8 (((v.getD 0 0).toNat : Nat) : Int)) W := fun W => str_byte v 0 (by omega) W
                                              have hb := HB6.out
                                              rw [decide_eq_true (by omega), Bool.true_and] at hb
                                              obtain ⟨c, hc⟩ : ∃ c, c = v.getD 0 0 := ⟨_, rfl⟩
                                              rw [← hc] at hb
                                              simp only [← hc] at hx
                                              clear hc h0
                                              have q63 : (((c.toNat : Nat) : Int) == 63) = (c == 63) := u8_beq c 63 63 rfl
                                              cases h63 : (c == 63)
                                              all_goals rw [h63] at q63 hb
                                              all_goals have Hb := Lib.hid hb
                                              all_goals clear hb h63
                                              all_goals go_wp2_with fail
                                              all_goals go_meet
                                              all_goals exact ⟨by first | (rw [Hb.out]; done) | (rw [Hb.out]; rfl), rfl⟩
                                        case rest =>
                                          as_aux_lemma =>
                                            obtain ⟨rfl, rfl⟩ := hcut
                                            go_upto_if 201 with fail
                                            go_cut [0] (fun x wx => x = .string (bs (midR v).2.2) ∧ (midR v).2.2.length ≤ 2048 ∧ Hid (PW w wx zcs (lcs ⟨sch, hst, p, pth, (midR v).1, [], (midR v).2.1, false⟩)))
                                            case first =>
                                              as_aux_lemma =>
                                                cases B6 with
                                                | false =>
                                                  have hv : ∀ r, v ≠ 63 :: r := by
                                                    rintro r rfl
                                                    have := HB6.out
                                                    simp at this
                                                  have Hm := Lib.hid (midR_no v hv)
                                                  clear hv
                                                  go_wp2_with fail
                                                  go_meet
                                                  exact ⟨by rw [Hm.out], by rw [Hm.out]; exact hvl, by rw [Hm.out]; exact HP⟩
                                                | true =>
                                                  obtain ⟨r, hr⟩ : ∃ r, v = 63 :: r := by
                                                    have h := HB6.out
                                                    cases v with
                                                    | nil => cases h
                                                    | cons c r => simp at h; exact ⟨r, by rw [← h]⟩
                                                  obtain ⟨hm, hm1⟩ := midR_yes r
                                                  rw [← hr] at hm hm1
                                                  have Hm := Lib.hid hm
                                                  clear hm hr
                                                  have hn4 := stop_le [35] v
                                                  have hu4 := Lib.hid (fun W => until_any v [35] W (by omega) (by decide))
                                                  obtain ⟨n4, hn4e⟩ : ∃ n4, n4 = stop [35] v := ⟨_, rfl⟩
                                                  rw [← hn4e] at hn4 hu4 hm1 Hm
                                                  clear hn4e
                                                  have hc4 : ∀ W, (Instr.slice 9 (.string (bs v)) (some (.int .i64 1)) (some (.int .i64 (n4 : Int))) none).run Tryz.prog W = .ok (.string (bs ((v.take n4).drop 1))) W := fun W => str_cut v 1 n4 hm1 hn4 W
                                                  have hf4 := fun W => str_from v n4 hn4 W
                                                  have hdl4 : (v.drop n4).length ≤ 2048 := by rw [List.length_drop]; omega
                                                  obtain ⟨q4, hq4⟩ : ∃ q4, q4 = (v.take n4).drop 1 := ⟨_, rfl⟩
                                                  rw [← hq4] at Hm
                                                  simp only [← hq4] at hc4
                                                  clear hm1 hq4
                                                  go_wp2_with (first | (go_at_call 47; refine (hu4.out _).mono ?_; rintro e w9 ⟨rfl, hb1⟩; have HPB := Lib.hid (HP.out.call hb1); clear hb1) | ((with_reducible refine atC 204 ?_); refine wpList_storeC rfl 4 (.tmp 204) (.const (.bool true)) rfl (w.heap.size + 1) 6 (.bool true) (by rfl) (by rfl) rfl info4 24 _ HPB.out.b (by exact Nat.le_of_ble_eq_true rfl) ?_; intro W5 hb1 ht1; have HPC := Lib.hid (HPB.out.set hb1 ht1); clear hb1 ht1) | ((with_reducible refine atS 208 207 ?_); refine wpList_storeC rfl 9 (.tmp 208) (.tmp 207) rfl (w.heap.size + 1) 4 (.string (bs q4)) (by rfl) (by rfl) rfl info9 24 _ HPC.out.b (by exact Nat.le_of_ble_eq_true rfl) ?_; intro W6 hb1 ht1; have HPD := Lib.hid (HPC.out.set hb1 ht1); clear hb1 ht1))
                                                  go_meet
                                                  exact ⟨by rw [Hm.out], by rw [Hm.out]; exact hdl4, by rw [Hm.out]; exact HPD⟩
                                            case rest =>
                                              as_aux_lemma =>
                                                obtain ⟨rfl, hml, HP⟩ := hcut
                                                clear HB6 hzv hvl
                                                generalize midR v = M at *
                                                obtain ⟨q, hq, f⟩ := M
                                                dsimp only at hml HP Hr
                                                have hzf : (bs f).size = f.length := bs_size f
                                                go_upto_region 46 with fail
                                                by_cases h0 : f.length = 0
                                                · have hf0 : f = [] := List.eq_nil_of_length_eq_zero h0
                                                  have tl : decide ((f.length : Int) > 0) = false := decide_eq_false (by omega)
                                                  have tl2 : decide (0 < f.length) = false := decide_eq_false (by omega)
                                                  have hr := Hr.out
                                                  rw [hf0, if_neg (by decide)] at hr
                                                  have Hs := Lib.hid hr
                                                  clear hr hf0 h0
                                                  go_wp2_with (first | ((with_reducible refine atD 227 ?_); refine wpList_loadL rfl (.tmp 4) rfl (w.heap.size + 1) (by rfl) _ HP.out.b rfl ?_) | ((with_reducible refine atS 2 227 ?_); refine wpList_storeL rfl (.tmp 2) (.tmp 227) rfl w.heap.size _ (by rfl) (by rfl) _ HP.out.b2 rfl rfl rfl ?_; intro W9 hb9 ht9))
                                                  refine bodyPost_ret (v := _) (results_link Tryz.results15 _ _ w.heap.size _ rfl hb9 rfl) rfl ?_
                                                  exact ⟨by rw [HR.out, Hs.out]; rfl, ht9.below _ _ (Nat.le_refl _) HP.out.bel⟩
                                                · have tl : decide ((f.length : Int) > 0) = true := decide_eq_true (by omega)
                                                  have tl2 : decide (0 < f.length) = true := decide_eq_true (by omega)
                                                  have hf1 : ∀ W, (Instr.slice 9 (.string (bs f)) (some (.int .i64 1)) none none).run Tryz.prog W = .ok (.string (bs (f.drop 1))) W := fun W => str_from f 1 (by omega) W
                                                  have hg : (f.drop 1).length ≤ 2048 := by rw [List.length_drop]; omega
                                                  have hemp : f.isEmpty = false := by
                                                    cases f with
                                                    | nil => exact absurd rfl h0
                                                    | cons c r => rfl
                                                  rw [hemp] at Hr
                                                  obtain ⟨g, hge⟩ : ∃ g, g = f.drop 1 := ⟨_, rfl⟩
                                                  rw [← hge] at hg Hr
                                                  simp only [← hge] at hf1
                                                  clear hemp h0 hge
                                                  go_upto_region 49 with (first | ((with_reducible refine atC 215 ?_); refine wpList_storeC rfl 4 (.tmp 215) (.const (.bool true)) rfl (w.heap.size + 1) 7 (.bool true) (by rfl) (by rfl) rfl info4 24 _ HP.out.b (by exact Nat.le_of_ble_eq_true rfl) ?_; intro W5 hb1 ht1; have HPB := Lib.hid (HP.out.set hb1 ht1); clear hb1 ht1) | ((with_reducible refine atS 218 217 ?_); refine wpList_storeC rfl 9 (.tmp 218) (.tmp 217) rfl (w.heap.size + 1) 5 (.string (bs g)) (by rfl) (by rfl) rfl info9 24 _ HPB.out.b (by exact Nat.le_of_ble_eq_true rfl) ?_; intro W6 hb1 ht1; have HPC := Lib.hid (HPB.out.set hb1 ht1); clear hb1 ht1))
                                                  clear hf1 hzf tl tl2 hml HP HPB
                                                  have HP := (show Hid (PW w W6 zcs (lcs ⟨sch, hst, p, pth, q, g, hq, true⟩)) from HPC)
                                                  clear HPC
                                                  have hul := Lib.hid (fun W => until_any g [35] W (by omega) (by decide))
                                                  have hsi := stop_in 35 g
                                                  have hsl := stop_le [35] g
                                                  obtain ⟨n5, hn5⟩ : ∃ n5, n5 = stop [35] g := ⟨_, rfl⟩
                                                  rw [← hn5] at hul hsi hsl
                                                  have hsi2 : decide ((n5 : Int) < (g.length : Int)) = g.contains 35 := by rw [← hsi, Bool.eq_iff_iff, decide_eq_true_eq, decide_eq_true_eq]; omega
                                                  have Hsi := Lib.hid hsi
                                                  have Hsi2 := Lib.hid hsi2
                                                  clear hn5 hsi hsi2
                                                  have hzg : (bs g).size = g.length := bs_size g
                                                  have c5 : W6.drew.cell? ⟨w.heap.size + 1, 5, none⟩ = some (.string (bs g)) := by
                                                    have := blk_cell HP.out.b 5
                                                    exact this
                                                  simp only [Act.put]
                                                  go_cut [225] (fun x wx => x = .bool (g.contains 35) ∧ Hid (PW w wx zcs (lcs ⟨sch, hst, p, pth, q, g, hq, true⟩)))
                                                  case first =>
                                                    as_aux_lemma =>
                                                      refine wp_region_noPanic ?_
                                                      refine wp_region_held_drew (S := (fun W => W.cell? ⟨w.heap.size + 1, 5, none⟩ = some (.string (bs g)) ∧ PW w W zcs (lcs ⟨sch, hst, p, pth, q, g, hq, true⟩))) (by kernel_rfl) (by exact ⟨c5, HP.out.quiet 1⟩) (fun hHeld => ?_)
                                                      refine wpAnyH_take (i := 0) (v := ?v1) rfl (by kernel_rfl) (by kernel_rfl) (by kernel_rfl) (fun _ _ _ h => h) (Or.inl ⟨by kernel_rfl, ?y1⟩) (by assumption) ?t1
                                                      case y1 => (intro w hSw; (try dsimp only at hSw); go_simp; try with_reducible rfl)
                                                      try simp only [Act.put]
                                                      refine wpAnyH_take (i := 1) (v := ?v2) rfl (by kernel_rfl) (by kernel_rfl) (by kernel_rfl) (fun _ _ _ h => h) (Or.inl ⟨by kernel_rfl, ?y2⟩) (by assumption) ?t2
                                                      case y2 => (intro w hSw; (try dsimp only at hSw); go_simp; try with_reducible rfl)
                                                      try simp only [Act.put]
                                                      refine wpAnyH_take (i := 3) (v := ?v3) rfl (by kernel_rfl) (by kernel_rfl) (by kernel_rfl) (fun _ _ _ h => h) (Or.inl ⟨by kernel_rfl, ?y3⟩) (by assumption) ?t3
                                                      case y3 => (intro w hSw; (try dsimp only at hSw); go_simp; try with_reducible rfl)
                                                      try simp only [Act.put]
                                                      refine wpAnyH_take (i := 4) (v := ?v4) rfl (by kernel_rfl) (by kernel_rfl) (by kernel_rfl) (fun _ _ _ h => h) (Or.inl ⟨by kernel_rfl, ?y4⟩) (by assumption) ?t4
                                                      case y4 => (intro w hSw; (try dsimp only at hSw); go_simp; try with_reducible rfl)
                                                      try simp only [Act.put]
                                                      refine wpAnyH_take (i := 5) (v := ?v5) rfl (by kernel_rfl) (by kernel_rfl) (by kernel_rfl) (fun _ _ _ h => h) (Or.inl ⟨by kernel_rfl, ?y5⟩) (by assumption) ?t5
                                                      case y5 => (intro w hSw; (try dsimp only at hSw); go_simp; try with_reducible rfl)
                                                      try simp only [Act.put]
                                                      refine wpAnyH_ready (rs := [2]) (by kernel_rfl) (by simp) ?_
                                                      refine AllReadyH.cons rfl (fun KX hKX => ?_) AllReadyH.nil
                                                      go_simp
                                                      (obtain ⟨k0, kL⟩ := hHeld; refine (hul.out _).mono ?_; rintro e w9 ⟨rfl, hb9⟩)
                                                      refine hKX.out _ _ (by exact ⟨(blk_cell (kL.call hb9).b 5).trans rfl, kL.call hb9⟩) (fun hHeld => ?_)
                                                      clear hKX KX
                                                      try simp only [Act.put]
                                                      refine wpAnyH_take (i := 6) (v := ?v6) rfl (by kernel_rfl) (by kernel_rfl) (by kernel_rfl) (fun _ _ _ h => h) (Or.inl ⟨by kernel_rfl, ?y6⟩) (by assumption) ?t6
                                                      case y6 => (intro w hSw; (try dsimp only at hSw); go_simp; try with_reducible rfl)
                                                      try simp only [Act.put]
                                                      refine wpAnyH_done (by kernel_rfl) ?_ _
                                                      refine NoPanic.normal ?_
                                                      try simp only [Act.put, List.getElem_toArray, List.getElem_cons_succ, List.getElem_cons_zero, List.setIfInBounds_toArray, List.set_cons_zero, List.set_cons_succ]
                                                      go_wp2_with fail
                                                      go_meet
                                                      exact ⟨by first | exact congrArg Value.bool Hsi.out | exact congrArg Value.bool Hsi2.out, Lib.hid hHeld.2⟩
                                                  case rest =>
                                                    as_aux_lemma =>
                                                      obtain ⟨rfl, HP⟩ := hcut
                                                      cases hD : g.contains 35 with
                                                      | true =>
                                                        have Hs := Lib.hid (Hr.out.trans (if_pos hD))
                                                        clear Hr hD
                                                        have Hr := Hs
                                                        go_wp2_with ((with_reducible refine atS 2 226 ?_); refine wpList_storeL rfl (.tmp 2) (.tmp 226) rfl w.heap.size _ (by rfl) (by rfl) _ HP.out.b2 rfl rfl rfl ?_; intro W9 hb9 ht9)
                                                        refine bodyPost_ret (v := _) (results_link Tryz.results15 _ _ w.heap.size _ rfl hb9 rfl) rfl ?_
                                                        exact ⟨by rw [HR.out, Hr.out]; rfl, ht9.below _ _ (Nat.le_refl _) HP.out.bel⟩
                                                      | false =>
                                                        have Hs := Lib.hid (Hr.out.trans (if_neg (by rw [hD]; decide)))
                                                        clear Hr hD
                                                        go_wp2_with (first | ((with_reducible refine atD 227 ?_); refine wpList_loadL rfl (.tmp 4) rfl (w.heap.size + 1) (by rfl) _ HP.out.b rfl ?_) | ((with_reducible refine atS 2 227 ?_); refine wpList_storeL rfl (.tmp 2) (.tmp 227) rfl w.heap.size _ (by rfl) (by rfl) _ HP.out.b2 rfl rfl rfl ?_; intro W9 hb9 ht9))
                                                        refine bodyPost_ret (v := _) (results_link Tryz.results15 _ _ w.heap.size _ rfl hb9 rfl) rfl ?_
                                                        exact ⟨by rw [HR.out, Hs.out]; rfl, ht9.below _ _ (Nat.le_refl _) HP.out.bel⟩
  · have hr : R = none := by rw [HR2.out]; unfold parseR; rw [if_pos (by omega)]
    have hnl : decide ((s.length : Int) > 2048) = true := decide_eq_true (by omega)
    have Hr := Lib.hid hr
    clear hr
    go_enter Tryz.func15, Tryz.ntmps15
    go_upto_region 2 with fail
    obtain ⟨W0, hW0⟩ : ∃ W0, W0 = (w.alloc (.cells zcs.toArray 24)).alloc (.cells zcs.toArray 24) := ⟨_, rfl⟩
    rw [← hW0] at HP0
    rw [show (w.alloc (.cells #[.string ⟨#[]⟩, .string ⟨#[]⟩, .int .i64 0, .string ⟨#[]⟩, .string ⟨#[]⟩, .string ⟨#[]⟩, .bool false, .bool false] 24)).alloc (.cells #[.string ⟨#[]⟩, .string ⟨#[]⟩, .int .i64 0, .string ⟨#[]⟩, .string ⟨#[]⟩, .string ⟨#[]⟩, .bool false, .bool false] 24) = W0 from hW0.symm]
    clear hW0
    go_wp2_with (first | ((with_reducible refine atD 16 ?_); refine wpList_loadL rfl (.tmp 4) rfl (w.heap.size + 1) (by rfl) _ HP0.out.b rfl ?_) | ((with_reducible refine atS 2 16 ?_); refine wpList_storeL rfl (.tmp 2) (.tmp 16) rfl w.heap.size _ (by rfl) (by rfl) _ HP0.out.b2 rfl rfl rfl ?_; intro W9 hb9 ht9))
    refine bodyPost_ret (v := _) (results_link Tryz.results15 _ _ w.heap.size _ rfl hb9 rfl) rfl ?_
    exact ⟨by rw [HR.out, Hr.out]; rfl, ht9.below _ _ (Nat.le_refl _) HP0.out.bel⟩
end Go.Proofs.YtcpkkaimingnlaaGreatDoor
