/-
  The law FetchEnds, walked.
-/
import Derived.Test.YtcpkkaimingnlaaGreatDoorFel
set_option linter.unusedVariables false
set_option linter.unusedSimpArgs false
namespace Go.Proofs.YtcpkkaimingnlaaGreatDoor
open Go.RowKit

def hI : Bs := [104, 116, 116, 112, 58, 47, 47, 105, 47, 120]
theorem hI_ok : (parseP hI).isSome = true := by kernel_rfl
theorem two_ok (s : Bs) (hs : s ∈ [hH, hI]) : s.length ≤ 9223372036854775807 ∧ (parseP s).isSome = true := by
  rcases List.mem_cons.1 hs with rfl | hs
  · exact ⟨by decide, hH_ok⟩
  · rw [List.mem_singleton.1 hs]
    exact ⟨by decide, hI_ok⟩
theorem okNew_2 (n : Int) (h : 1 ≤ n ∧ n ≤ 1048576) : okNew n [hH, hI] = true := by
  unfold okNew
  rw [decide_eq_true h.1, decide_eq_true h.2]
  have : ([hH, hI].all fun s => (parseP s).isSome) = true := by rw [List.all_cons, List.all_cons, hH_ok, hI_ok]; rfl
  rw [this]; rfl
set_option maxHeartbeats 16000000 in
set_option maxRecDepth 100000 in
theorem ends_any (period : Int) (ks : Bs) (A : Option Addr) (ck : Nat) (w : World) (hT : Tabs w) (hck : ks.length ≤ ck ∧ ck ≤ 9223372036854775807)
    (hrk : Rd w w.heap.size 1 A ks.length (Lib.byteCells ks)) : Calls Tryz.prog 11 #[.int .i64 period, .slice A ks.length ck] w fun e w' => e = .returned (.bool true) ∧ Below w.heap.size w w' := by
  have HT := Lib.hid (fun W (h : Below w.heap.size w W) => hT.below h)
  have HW := Lib.hid hT
  have hfi := Lib.hid (first14_any w hT)
  have HRK := Lib.hid hrk
  obtain ⟨n, hn⟩ : ∃ n, n = wrap64 (1 + wrap64 ((IntKind.u64.wrap period).tmod 9)) := ⟨_, rfl⟩
  have hn9 : 1 ≤ n ∧ n ≤ 9 := by
    rw [hn, unit_val _ _ ⟨by decide, by decide⟩]
    have := unit_mod period 9 (by decide)
    omega
  obtain ⟨M, hM⟩ : ∃ M : Nat, (M : Int) = 64 * n + 1 := ⟨(64 * n + 1).toNat, by omega⟩
  have hM577 : M ≤ 577 := by omega
  have hnew := Lib.hid (fun W (h : Below w.heap.size w W) => newPQ n ⟨hn9.1, by omega⟩ [hH, hI] (okNew_2 n ⟨hn9.1, by omega⟩) h hT (fun s hs => two_ok s hs) (by decide))
  clear hT hrk
  obtain ⟨nk, hnk⟩ : ∃ nk, nk = ks.length := ⟨_, rfl⟩
  rw [← hnk] at hck HRK ⊢
  have HNK := Lib.hid hnk
  clear hnk
  have HM := Lib.hid hM
  go_enter Tryz.func11, Tryz.ntmps11
  go_upto_region 4 with (go_at_call 25; refine hfi.out.mono ?_; rintro e w1 ⟨rfl, hb1⟩; have HB1 := Lib.hid hb1; clear hb1)
  rw [← hn]
  generalize (IntKind.u64.wrap period).tmod 9 = x28
  clear hn hfi hM
  go_upto_region 8 with (go_at_call 26; refine (hnew.out _ HB1.out).mono ?_; rintro e w2 ⟨lo, hi, g, Ag, cap, gs, rfl, hq, _, _, _⟩; have H2 := Lib.hid hq; clear hq)
  go_upto_block 0 with fail
  go_cut [6] (fun v wx => v = ptr g ∧ Hid (Below w.heap.size w wx))
  case first =>
    as_aux_lemma =>
      go_upto_block 1 with fail
      go_loopw [8, 41] (fun hv i wr => ∃ (j : Nat) (s0 s1 : Src) (now : Int), i = .int .i64 (j : Int) ∧ j ≤ nk ∧ hv = .int .i64 ((s0.hops : Nat) : Int) ∧ s0.out = false ∧ (0 ≤ now ∧ now ≤ j * 577) ∧ s0.due ≤ now + 64 * n ∧ Hid (PQ w wr lo hi g Ag cap gs n now [s0, s1])) (fun _ i _ => nk - (intOf i).toNat)
      case atStart => exact ⟨0, newS hH, newS hI, 0, rfl, Nat.zero_le _, rfl, rfl, ⟨by omega, by omega⟩, (by show (0 : Int) ≤ 0 + 64 * n; omega), H2⟩
      case round =>
        obtain ⟨j, s0, s1, now, rfl, hj, rfl, hout, hnow, hdue, H⟩ := hrel
        clear H2
        by_cases hjn : j < nk
        · have tj : decide ((j : Int) < (nk : Int)) = true := by rw [decide_eq_true_eq]; omega
          obtain ⟨b, off, hA, _, hc⟩ := (HRK.out.keep H.out.bel).at_ (by omega)
          subst hA
          have hcj := (hc j (by omega)).trans (show (Lib.byteCells ks)[j]? = some (.int .u8 (((ks.getD j 0).toNat : Nat) : Int)) by have := HNK.out; unfold Lib.byteCells; simp [show j < ks.length by omega])
          clear hc
          have hc8 : ((ks.getD j 0).toNat : Int) < 256 := by have := (ks.getD j 0).toNat_lt; omega
          have hc0 : 0 ≤ ((ks.getD j 0).toNat : Int) := by omega
          generalize ((ks.getD j 0).toNat : Int) = c at *
          by_cases h40 : 40 ≤ j
          · have t40 : decide ((j : Int) ≥ 40) = true := by rw [decide_eq_true_eq]; omega
            have t40' : decide (40 ≤ j) = true := decide_eq_true h40
            go_wp2_with fail
            go_meet
            exact ⟨rfl, Lib.hid H.out.bel⟩
          · have t40 : decide ((j : Int) ≥ 40) = false := by rw [decide_eq_false_iff_not]; omega
            have t40' : decide (40 ≤ j) = false := decide_eq_false h40
            have hnw : 0 ≤ now ∧ now ≤ 30000 := by omega
            have v1 : IntKind.i64.wrap (64 * n) = 64 * n := IntWalk.i64_in _ (by omega)
            have v2 : IntKind.i64.wrap (64 * n + 1) = (M : Int) := by rw [HM.out]; exact IntWalk.i64_in _ (by omega)
            go_upto_region 13 with fail
            clear t40 t40' h40 hcj
            go_upto_block 2 with fail
            go_cut [11, 10] (fun v cv wx => v = .int .i64 1 ∧ cv = .int .u8 c ∧ ∃ (m : Nat) (s1' : Src), m < M ∧ Hid (PQ w wx lo hi g Ag cap gs n (now + m + 1) [{ s0 with out := true }, s1']))
            case first =>
              as_aux_lemma =>
                go_upto_block 3 with fail
                go_loopw [11, 51] (fun av i wx => ∃ (m : Nat) (s1' : Src), av = .int .i64 0 ∧ i = .int .i64 (m : Int) ∧ m ≤ M ∧ (m = 0 ∨ now + m < s0.due) ∧ Hid (PQ w wx lo hi g Ag cap gs n (now + m) [s0, s1'])) (fun _ i _ => M - (intOf i).toNat)
                case atStart => exact ⟨0, s1, rfl, rfl, Nat.zero_le _, .inl rfl, by simpa using H⟩
                case round =>
                  obtain ⟨m, s1', rfl, rfl, hm, hmd, H3⟩ := hrel
                  clear H
                  by_cases hmM : m < M
                  · have tm : decide ((m : Int) < (M : Int)) = true := by rw [decide_eq_true_eq]; omega
                    have htk := Lib.hid (tickPQ H3.out ⟨by omega, by omega⟩ (by simp))
                    obtain ⟨L, hL⟩ : ∃ L, L = asksP (now + m + 1) 0 [s0, s1'] := ⟨_, rfl⟩
                    rw [← hL] at htk
                    have hLl : L.length ≤ 2 := by rw [hL]; exact asks_len ..
                    have hcn : cnt0 L = if dueP (now + m + 1) s0 = true then 1 else 0 := by rw [hL]; exact cnt0_asks ..
                    have HCN := Lib.hid hcn
                    clear hL hcn
                    go_upto_block 4 with (go_at_call 30; refine htk.out.mono ?_; rintro e wT ⟨⟨v, rfl, hv⟩, hq, _⟩; have HV0 := Lib.hid hv; obtain ⟨AL, cL, hvv, hcL, hcmL, _⟩ := hv.form; subst hvv; have HQ := Lib.hid hq; clear hv hq)
                    clear htk H3
                    go_cut [11] (fun v wx => v = .int .i64 ((cnt0 L : Nat) : Int) ∧ Hid (Below wT.heap.size wT wx))
                    case first =>
                      as_aux_lemma =>
                        go_upto_block 5 with fail
                        go_loopw [11, 56] (fun av i wq => ∃ q : Nat, i = .int .i64 (q : Int) ∧ q ≤ L.length ∧ av = .int .i64 ((cnt0 (L.take q) : Nat) : Int) ∧ Hid (Below wT.heap.size wT wq)) (fun _ i _ => L.length - (intOf i).toNat)
                        case atStart => exact ⟨0, rfl, Nat.zero_le _, rfl, Lib.hid (Below.refl _ _)⟩
                        case round =>
                          obtain ⟨q, rfl, hq, rfl, HB⟩ := hrel
                          by_cases hqL : q < L.length
                          · have tq : decide ((q : Int) < (L.length : Int)) = true := by rw [decide_eq_true_eq]; omega
                            obtain ⟨x, hx⟩ : ∃ x, L[q]? = some x := ⟨L[q]'hqL, List.getElem?_eq_getElem _⟩
                            obtain ⟨_, g1, hA1, _, _, hr1⟩ := (HV0.out.keep HB.out).at_ q x hx
                            subst hA1
                            have HR := Lib.hid (show wr.rangeAt g1 (q * 4) (akc x) by rw [Nat.mul_comm]; exact hr1)
                            have HC := Lib.hid (cnt0_snoc hx)
                            have hk2 : cnt0 (L.take q) ≤ 2 := Nat.le_trans (cnt0_le _) (by rw [List.length_take]; omega)
                            generalize cnt0 (L.take q) = k at *
                            obtain ⟨bz, hbz⟩ : ∃ bz, bz = decide (x.src = 0) := ⟨_, rfl⟩
                            have t1 : ((((x.src : Nat) : Int)) == 0) = bz := by rw [hbz, Bool.eq_iff_iff, beq_iff_eq, decide_eq_true_eq]; omega
                            have t2 : (x.src == 0) = bz := by rw [hbz, Bool.eq_iff_iff, beq_iff_eq, decide_eq_true_eq]
                            have t3 : decide (x.src = 0) = bz := hbz.symm
                            have HBZ := Lib.hid hbz
                            have v3 : IntKind.i64.wrap ((k : Int) + 1) = (k : Int) + 1 := IntWalk.i64_in _ (by omega)
                            clear hr1 hx hbz
                            go_upto_if 62 with (first | ((with_reducible refine atD 59 ?_); refine wpList_loadMA (by rfl) (.tmp 58) rfl g1 (q * 4) (by rfl) x HR.out ?_) | ((with_reducible refine atS 13 59 ?_); refine wpList_storeR rfl 69 (.tmp 13) (.tmp 59) rfl wr.heap.size (akc x).toArray (by rfl) (by rfl) 69 _ (blk_new wr 69 _) info69 rfl (by rw [← Array.all_toList]; rfl) ?_; intro X1 hb1 ht1; have k0 := (blk_cell hb1 0).trans (show _ = some (.int .i64 ((x.src : Nat) : Int)) from rfl); have HB2 := Lib.hid (Below.andThen HB.out (ht1.below wr.heap.size wr (Nat.le_refl _) (below_one wr _))); clear hb1 ht1))
                            clear t1 t2 t3 HR HB k0
                            cases bz with
                            | true =>
                              have hc : cnt0 (L.take (q + 1)) = k + 1 := by rw [HC.out, if_pos (of_decide_eq_true HBZ.out.symm)]
                              have HC2 := Lib.hid hc
                              clear hc HC HBZ
                              go_wp2_with fail
                              exact ⟨⟨q + 1, by go_num, by omega, by rw [HC2.out]; rfl, HB2⟩, by simp [intOf]; omega⟩
                            | false =>
                              have hc : cnt0 (L.take (q + 1)) = k := by rw [HC.out, if_neg (of_decide_eq_false HBZ.out.symm)]; rfl
                              have HC2 := Lib.hid hc
                              clear hc HC HBZ
                              go_wp2_with fail
                              exact ⟨⟨q + 1, by go_num, by omega, by rw [HC2.out], HB2⟩, by simp [intOf]; omega⟩
                          · have tq : decide ((q : Int) < (L.length : Int)) = false := by rw [decide_eq_false_iff_not]; omega
                            have e : cnt0 (L.take q) = cnt0 L := by rw [List.take_of_length_le (by omega)]
                            rw [e]
                            go_wp2_with fail
                            go_meet
                            exact ⟨rfl, HB⟩
                    case rest =>
                      as_aux_lemma =>
                        obtain ⟨rfl, HB⟩ := hcut
                        have H4 := Lib.hid (HQ.out.call HB.out)
                        clear HQ HB
                        by_cases hd : dueP (now + m + 1) s0 = true
                        · have e1 : cnt0 L = 1 := by rw [HCN.out, if_pos hd]
                          rw [e1]
                          have e2 : ([s0, s1'].map (tickP (now + m + 1))) = [{ s0 with out := true }, tickP (now + m + 1) s1'] := by
                            rw [List.map_cons, List.map_cons, List.map_nil]
                            unfold tickP
                            rw [if_pos hd]
                          rw [e2] at H4
                          clear e1 e2 HCN hd
                          go_wp2_with fail
                          go_meet
                          exact ⟨rfl, rfl, m, tickP (now + m + 1) s1', hmM, H4⟩
                        · have e1 : cnt0 L = 0 := by rw [HCN.out, if_neg hd]
                          rw [e1]
                          have e2 : ([s0, s1'].map (tickP (now + m + 1))) = [s0, tickP (now + m + 1) s1'] := by
                            rw [List.map_cons, List.map_cons, List.map_nil]
                            unfold tickP
                            rw [if_neg hd]
                          rw [e2] at H4
                          have hlt : now + m + 1 < s0.due := by
                            unfold dueP at hd
                            rw [hout] at hd
                            simp at hd
                            omega
                          have e3 : now + ((m + 1 : Nat) : Int) = now + m + 1 := by omega
                          have H5 := (show Hid (PQ w wc lo hi g Ag cap gs n (now + ((m + 1 : Nat) : Int)) [s0, tickP (now + m + 1) s1']) by rw [e3]; exact H4)
                          have hlt2 : now + ((m + 1 : Nat) : Int) < s0.due := by omega
                          clear e1 e2 HCN hd H4 e3
                          go_wp2_with fail
                          exact ⟨⟨m + 1, _, rfl, by go_num, by omega, .inr hlt2, H5⟩, by simp [intOf]; omega⟩
                  · exfalso
                    have hMM := HM.out
                    rcases hmd with h | h <;> omega
            case rest =>
              as_aux_lemma =>
                obtain ⟨rfl, rfl, m, s1', hm, H3⟩ := hcut
                clear H
                obtain ⟨t, ht⟩ : ∃ t, t = now + m + 1 := ⟨_, rfl⟩
                rw [← ht] at H3
                have ht2 : 0 ≤ t ∧ t ≤ (j + 1) * 577 ∧ t ≤ 40000 := by omega
                clear ht hdue hnow hm
                obtain ⟨lost, hlost⟩ : ∃ lost, lost = decide (c.tmod 7 = 6) := ⟨_, rfl⟩
                go_upto_region 25 with fail
                go_cut [14] (fun v wx => ∃ (p : Nat) (loc : Bs) (st : Int), v = .pointer (some ⟨p, 0, none⟩) ∧ (st = 200 ∨ st = 301 ∨ st = 302 ∨ st = 304 ∨ st = 500 ∨ st = 0) ∧ loc.length ≤ 1000 ∧ hi ≤ p ∧ Hid (Blk wx p 48 (acs ⟨lost, st, loc, [], [], .slice none 0 0⟩)) ∧ Hid (PQ w wx lo hi g Ag cap gs n t [{ s0 with out := true }, s1']))
                case first =>
                  as_aux_lemma =>
                    obtain ⟨qn, hqn, hqn6, hqn6', hw6, hw6'⟩ := ex_qn c hc0
                    obtain ⟨cb, hcb⟩ := ex_cb c hc0
                    obtain ⟨st, hstq, hst⟩ := ex_st qn hqn6
                    have HST := Lib.hid hstq
                    clear hstq
                    have hl7 : ((c.tmod 7) == 6) = lost := by rw [hlost, Bool.eq_iff_iff, beq_iff_eq, decide_eq_true_eq]
                    have hhi := H3.out.pol.hB
                    clear hc0 hc8 hlost hM577 hnw v1 v2 tj hck hn9 ht2
                    refine wp_region_noPanic ?_
                    refine wp_region_held_drew (S := (fun _ => True)) (by kernel_rfl) trivial (fun hHeld => ?_)
                    refine wpAnyH_take (i := 1) (v := ?v1) rfl (by kernel_rfl) (by kernel_rfl) (by kernel_rfl) (fun _ _ _ h => h) (Or.inl ⟨by kernel_rfl, ?y1⟩) (by assumption) ?t1
                    case y1 => (intro w hSw; (try dsimp only at hSw); go_simp; try with_reducible rfl)
                    try simp only [Act.put, List.getElem_toArray, List.getElem_cons_succ, List.getElem_cons_zero, List.setIfInBounds_toArray, List.set_cons_zero, List.set_cons_succ]
                    refine wpAnyH_take (i := 2) (v := .int .u8 (qn : Int)) rfl (by kernel_rfl) (by kernel_rfl) (by kernel_rfl) (fun _ _ _ h => h) (Or.inl ⟨by kernel_rfl, ?y2⟩) (by assumption) ?_
                    case y2 => (intro w hSw; (try dsimp only at hSw); go_simp; try with_reducible rfl)
                    try simp only [Act.put, List.getElem_toArray, List.getElem_cons_succ, List.getElem_cons_zero, List.setIfInBounds_toArray, List.set_cons_zero, List.set_cons_succ]
                    refine wpAnyH_take (i := 3) (v := .int .i64 (qn : Int)) rfl (by kernel_rfl) (by kernel_rfl) (by kernel_rfl) (fun _ _ _ h => h) (Or.inl ⟨by kernel_rfl, ?y3⟩) (by assumption) ?_
                    case y3 => (intro w hSw; (try dsimp only at hSw); go_simp; try with_reducible rfl)
                    try simp only [Act.put, List.getElem_toArray, List.getElem_cons_succ, List.getElem_cons_zero, List.setIfInBounds_toArray, List.set_cons_zero, List.set_cons_succ]
                    refine wpAnyH_take (i := 6) (v := ?v4) rfl (by kernel_rfl) (by kernel_rfl) (by kernel_rfl) (fun _ _ _ h => h) (Or.inl ⟨by kernel_rfl, ?y4⟩) (by assumption) ?t4
                    case y4 => (intro w hSw; (try dsimp only at hSw); go_simp; try with_reducible rfl)
                    try simp only [Act.put, List.getElem_toArray, List.getElem_cons_succ, List.getElem_cons_zero, List.setIfInBounds_toArray, List.set_cons_zero, List.set_cons_succ]
                    refine wpAnyH_take (i := 7) (v := .int .u8 (c.tmod 26)) rfl (by kernel_rfl) (by kernel_rfl) (by kernel_rfl) (fun _ _ _ h => h) (Or.inl ⟨by kernel_rfl, ?y5⟩) (by assumption) ?_
                    case y5 => (intro w hSw; (try dsimp only at hSw); go_simp; try with_reducible rfl)
                    try simp only [Act.put, List.getElem_toArray, List.getElem_cons_succ, List.getElem_cons_zero, List.setIfInBounds_toArray, List.set_cons_zero, List.set_cons_succ]
                    refine wpAnyH_take (i := 8) (v := .int .u8 ((cb.toNat : Nat) : Int)) rfl (by kernel_rfl) (by kernel_rfl) (by kernel_rfl) (fun _ _ _ h => h) (Or.inl ⟨by kernel_rfl, ?y6⟩) (by assumption) ?_
                    case y6 => (intro w hSw; (try dsimp only at hSw); go_simp; try with_reducible rfl)
                    try simp only [Act.put, List.getElem_toArray, List.getElem_cons_succ, List.getElem_cons_zero, List.setIfInBounds_toArray, List.set_cons_zero, List.set_cons_succ]
                    refine wpAnyH_take (i := 12) (v := ?v7) rfl (by kernel_rfl) (by kernel_rfl) (by kernel_rfl) (fun _ _ _ h => h) (Or.inl ⟨by kernel_rfl, ?y7⟩) (by assumption) ?t7
                    case y7 => (intro w hSw; (try dsimp only at hSw); go_simp; try with_reducible rfl)
                    try simp only [Act.put, List.getElem_toArray, List.getElem_cons_succ, List.getElem_cons_zero, List.setIfInBounds_toArray, List.set_cons_zero, List.set_cons_succ]
                    refine wpAnyH_take (i := 13) (v := .int .u8 (c.tmod 7)) rfl (by kernel_rfl) (by kernel_rfl) (by kernel_rfl) (fun _ _ _ h => h) (Or.inl ⟨by kernel_rfl, ?y8⟩) (by assumption) ?_
                    case y8 => (intro w hSw; (try dsimp only at hSw); go_simp; try with_reducible rfl)
                    try simp only [Act.put, List.getElem_toArray, List.getElem_cons_succ, List.getElem_cons_zero, List.setIfInBounds_toArray, List.set_cons_zero, List.set_cons_succ]
                    refine wpAnyH_take (i := 14) (v := .bool lost) rfl (by kernel_rfl) (by kernel_rfl) (by kernel_rfl) (fun _ _ _ h => h) (Or.inl ⟨by kernel_rfl, ?y9⟩) (by assumption) ?_
                    case y9 => (intro w hSw; (try dsimp only at hSw); go_simp; try with_reducible rfl)
                    try simp only [Act.put, List.getElem_toArray, List.getElem_cons_succ, List.getElem_cons_zero, List.setIfInBounds_toArray, List.set_cons_zero, List.set_cons_succ]
                    refine wpAnyH_ready (rs := [0, 9, 16]) (by kernel_rfl) (by simp) ?_
                    refine (AllReadyH.cons rfl (fun KX hKX => ?_) (AllReadyH.cons rfl (fun KX hKX => ?_) (AllReadyH.cons rfl (fun KX hKX => ?_) AllReadyH.nil)))
                    · rw [if_pos (by kernel_rfl)]
                      refine wp_ran (run_bs70 (g := wc.heap.size) (by simp) rfl) (hKX.out _ _ (by exact trivial) (fun hHeld => ?_))
                      clear hKX KX
                      try simp only [Act.put, List.getElem_toArray, List.getElem_cons_succ, List.getElem_cons_zero, List.setIfInBounds_toArray, List.set_cons_zero, List.set_cons_succ]
                      refine wpAnyH_more (S' := (fun W => ((fun _ => True) W) ∧ W.cell? ⟨wc.heap.size, qn, none⟩ = some (.int .i64 st))) (fun _ h => h.1) _ _ _ _ ?_
                      have hHeld2 : (fun W => ((fun _ => True) W) ∧ W.cell? ⟨wc.heap.size, qn, none⟩ = some (.int .i64 st)) (wc.drew.alloc (.cells #[.int .i64 200, .int .i64 301, .int .i64 302, .int .i64 304, .int .i64 500, .int .i64 0] 3)) := (by exact ⟨trivial, (cellS (W := wc.drew) (k := 0) (by simp) hqn6 HST.out)⟩)
                      clear hHeld
                      refine wpAnyH_take (i := 4) (v := .pointer (some ⟨wc.heap.size, qn, none⟩)) rfl (by kernel_rfl) (by kernel_rfl) (by kernel_rfl) (fun _ _ _ h => h) (Or.inl ⟨by kernel_rfl, ?y10⟩) (by assumption) ?_
                      case y10 => (intro w hSw; (try dsimp only at hSw); go_simp; try with_reducible rfl)
                      try simp only [Act.put, List.getElem_toArray, List.getElem_cons_succ, List.getElem_cons_zero, List.setIfInBounds_toArray, List.set_cons_zero, List.set_cons_succ]
                      refine wpAnyH_take (i := 5) (v := .int .i64 st) rfl (by kernel_rfl) (by kernel_rfl) (by kernel_rfl) (fun _ _ _ h => h) (Or.inl ⟨by kernel_rfl, ?y11⟩) (by assumption) ?_
                      case y11 => (intro w hSw; (try dsimp only at hSw); go_simp; try with_reducible rfl)
                      try simp only [Act.put, List.getElem_toArray, List.getElem_cons_succ, List.getElem_cons_zero, List.setIfInBounds_toArray, List.set_cons_zero, List.set_cons_succ]
                      refine wpAnyH_ready (rs := [9, 16]) (by kernel_rfl) (by simp) ?_
                      refine (AllReadyH.cons rfl (fun KX hKX => ?_) (AllReadyH.cons rfl (fun KX hKX => ?_) AllReadyH.nil))
                      · rw [if_pos (by kernel_rfl)]
                        refine wp_ran (run_bs46 (g := (wc.heap.size + 1)) (by simp) (.tmp 79) rfl rfl) (hKX.out _ _ (by exact ⟨trivial, (cell_on (cellS (W := wc.drew) (k := 0) (by simp) hqn6 HST.out) (.cells #[.int .u8 ((cb.toNat : Nat) : Int)] 5))⟩) (fun hHeld => ?_))
                        clear hKX KX
                        try simp only [Act.put, List.getElem_toArray, List.getElem_cons_succ, List.getElem_cons_zero, List.setIfInBounds_toArray, List.set_cons_zero, List.set_cons_succ]
                        refine wpAnyH_more (S' := (fun W => ((fun W => ((fun _ => True) W) ∧ W.cell? ⟨wc.heap.size, qn, none⟩ = some (.int .i64 st)) W) ∧ W.cell? ⟨(wc.heap.size + 1), 0, none⟩ = some (.int .u8 ((cb.toNat : Nat) : Int)))) (fun _ h => h.1) _ _ _ _ ?_
                        have hHeld2 : (fun W => ((fun W => ((fun _ => True) W) ∧ W.cell? ⟨wc.heap.size, qn, none⟩ = some (.int .i64 st)) W) ∧ W.cell? ⟨(wc.heap.size + 1), 0, none⟩ = some (.int .u8 ((cb.toNat : Nat) : Int))) ((wc.drew.alloc (.cells #[.int .i64 200, .int .i64 301, .int .i64 302, .int .i64 304, .int .i64 500, .int .i64 0] 3)).alloc (.cells #[.int .u8 ((cb.toNat : Nat) : Int)] 5)) := (by exact ⟨⟨trivial, (cell_on (cellS (W := wc.drew) (k := 0) (by simp) hqn6 HST.out) (.cells #[.int .u8 ((cb.toNat : Nat) : Int)] 5))⟩, (cellB (W := (wc.drew.alloc (.cells #[.int .i64 200, .int .i64 301, .int .i64 302, .int .i64 304, .int .i64 500, .int .i64 0] 3))) (cb := cb) (k := 1) (by simp))⟩)
                        clear hHeld
                        refine wpAnyH_take (i := 10) (v := .string (bs [cb])) rfl (by kernel_rfl) (by kernel_rfl) (by kernel_rfl) (fun _ _ _ h => h) (Or.inl ⟨by kernel_rfl, ?zz12⟩) (by assumption) ?_
                        case zz12 => (intro w hSw; exact run_convX (.tmp 80) rfl rfl hSw.2)
                        try simp only [Act.put, List.getElem_toArray, List.getElem_cons_succ, List.getElem_cons_zero, List.setIfInBounds_toArray, List.set_cons_zero, List.set_cons_succ]
                        refine wpAnyH_take (i := 11) (v := .string (bs (hJ ++ [cb]))) rfl (by kernel_rfl) (by kernel_rfl) (by kernel_rfl) (fun _ _ _ h => h) (Or.inl ⟨by kernel_rfl, ?zz13⟩) (by assumption) ?_
                        case zz13 => (intro w hSw; exact run_catX (.tmp 81) _ rfl rfl)
                        try simp only [Act.put, List.getElem_toArray, List.getElem_cons_succ, List.getElem_cons_zero, List.setIfInBounds_toArray, List.set_cons_zero, List.set_cons_succ]
                        refine wpAnyH_take (i := 15) (v := .agg (acs ⟨lost, st, hJ ++ [cb], [], [], .slice none 0 0⟩).toArray) rfl (by kernel_rfl) (by kernel_rfl) (by kernel_rfl) (fun _ _ _ h => h) (Or.inl ⟨by kernel_rfl, ?y14⟩) (by assumption) ?_
                        case y14 => (intro w hSw; (try dsimp only at hSw); go_simp; try rfl)
                        try simp only [Act.put, List.getElem_toArray, List.getElem_cons_succ, List.getElem_cons_zero, List.setIfInBounds_toArray, List.set_cons_zero, List.set_cons_succ]
                        refine wpAnyH_ready (rs := [16]) (by kernel_rfl) (by simp) ?_
                        refine (AllReadyH.cons rfl (fun KX hKX => ?_) AllReadyH.nil)
                        · rw [if_pos (by kernel_rfl)]
                          refine wp_ran (run_alloc48 (g := (wc.heap.size + 2)) (by simp) rfl) (hKX.out _ _ (by exact ⟨⟨trivial, (cell_on (cell_on (cellS (W := wc.drew) (k := 0) (by simp) hqn6 HST.out) (.cells #[.int .u8 ((cb.toNat : Nat) : Int)] 5)) (.cells #[.bool false, .int .i64 0, .string ⟨#[]⟩, .string ⟨#[]⟩, .string ⟨#[]⟩, .slice none 0 0] 48))⟩, (cell_on (cellB (W := (wc.drew.alloc (.cells #[.int .i64 200, .int .i64 301, .int .i64 302, .int .i64 304, .int .i64 500, .int .i64 0] 3))) (cb := cb) (k := 1) (by simp)) (.cells #[.bool false, .int .i64 0, .string ⟨#[]⟩, .string ⟨#[]⟩, .string ⟨#[]⟩, .slice none 0 0] 48))⟩) (fun hHeld => ?_))
                          clear hKX KX
                          try simp only [Act.put, List.getElem_toArray, List.getElem_cons_succ, List.getElem_cons_zero, List.setIfInBounds_toArray, List.set_cons_zero, List.set_cons_succ]
                          have hb0 : Blk (((wc.drew.alloc (.cells #[.int .i64 200, .int .i64 301, .int .i64 302, .int .i64 304, .int .i64 500, .int .i64 0] 3)).alloc (.cells #[.int .u8 ((cb.toNat : Nat) : Int)] 5)).alloc (.cells #[.bool false, .int .i64 0, .string ⟨#[]⟩, .string ⟨#[]⟩, .string ⟨#[]⟩, .slice none 0 0] 48)) (wc.heap.size + 2) 48 [.bool false, .int .i64 0, .string ⟨#[]⟩, .string ⟨#[]⟩, .string ⟨#[]⟩, .slice none 0 0] := (blk48 (W := ((wc.drew.alloc (.cells #[.int .i64 200, .int .i64 301, .int .i64 302, .int .i64 304, .int .i64 500, .int .i64 0] 3)).alloc (.cells #[.int .u8 ((cb.toNat : Nat) : Int)] 5))) (k := 2) (by simp))
                          have hbl : Below wc.heap.size wc (((wc.drew.alloc (.cells #[.int .i64 200, .int .i64 301, .int .i64 302, .int .i64 304, .int .i64 500, .int .i64 0] 3)).alloc (.cells #[.int .u8 ((cb.toNat : Nat) : Int)] 5)).alloc (.cells #[.bool false, .int .i64 0, .string ⟨#[]⟩, .string ⟨#[]⟩, .string ⟨#[]⟩, .slice none 0 0] 48)) := below_three wc _ _ _
                          refine wpAnyH_storeR 17 rfl (by kernel_rfl) (by kernel_rfl) 48 (.tmp 14) (.tmp 86) rfl (wc.heap.size + 2) (acs ⟨lost, st, hJ ++ [cb], [], [], .slice none 0 0⟩).toArray (by rfl) (by rfl) 48 _ hb0 info48 rfl (by rw [← Array.all_toList]; rfl) ?_
                          intro X4 hb1 ht1
                          have HBk := Lib.hid (show Blk X4 (wc.heap.size + 2) 48 (acs ⟨lost, st, hJ ++ [cb], [], [], .slice none 0 0⟩) from hb1)
                          have H5 := Lib.hid (H3.out.call (ht1.below wc.heap.size wc (by simp) hbl))
                          clear hb0 hbl
                          refine ⟨(by exact ⟨⟨trivial, cell_turn ht1 (by simp) hHeld.1.2⟩, cell_turn ht1 (by simp) hHeld.2⟩), fun hHeld => ?_⟩
                          clear hb1 ht1
                          try simp only [Act.put, List.getElem_toArray, List.getElem_cons_succ, List.getElem_cons_zero, List.setIfInBounds_toArray, List.set_cons_zero, List.set_cons_succ]
                          refine wpAnyH_done (by kernel_rfl) ?_ _
                          refine NoPanic.normal ?_
                          try simp only [Act.put, List.getElem_toArray, List.getElem_cons_succ, List.getElem_cons_zero, List.setIfInBounds_toArray, List.set_cons_zero, List.set_cons_succ]
                          go_wp2_with fail
                          go_meet
                          exact ⟨(wc.heap.size + 2), hJ ++ [cb], st, rfl, hst, by simp [hJ], Nat.le_trans hhi (by simp), HBk, H5⟩
                      · rw [if_pos (by kernel_rfl)]
                        refine wp_ran (run_alloc48 (g := (wc.heap.size + 1)) (by simp) rfl) (hKX.out _ _ (by exact ⟨trivial, (cell_on (cellS (W := wc.drew) (k := 0) (by simp) hqn6 HST.out) (.cells #[.bool false, .int .i64 0, .string ⟨#[]⟩, .string ⟨#[]⟩, .string ⟨#[]⟩, .slice none 0 0] 48))⟩) (fun hHeld => ?_))
                        clear hKX KX
                        try simp only [Act.put, List.getElem_toArray, List.getElem_cons_succ, List.getElem_cons_zero, List.setIfInBounds_toArray, List.set_cons_zero, List.set_cons_succ]
                        refine wpAnyH_ready (rs := [9]) (by kernel_rfl) (by simp) ?_
                        refine (AllReadyH.cons rfl (fun KX hKX => ?_) AllReadyH.nil)
                        · rw [if_pos (by kernel_rfl)]
                          refine wp_ran (run_bs46 (g := (wc.heap.size + 2)) (by simp) (.tmp 79) rfl rfl) (hKX.out _ _ (by exact ⟨trivial, (cell_on (cell_on (cellS (W := wc.drew) (k := 0) (by simp) hqn6 HST.out) (.cells #[.bool false, .int .i64 0, .string ⟨#[]⟩, .string ⟨#[]⟩, .string ⟨#[]⟩, .slice none 0 0] 48)) (.cells #[.int .u8 ((cb.toNat : Nat) : Int)] 5))⟩) (fun hHeld => ?_))
                          clear hKX KX
                          try simp only [Act.put, List.getElem_toArray, List.getElem_cons_succ, List.getElem_cons_zero, List.setIfInBounds_toArray, List.set_cons_zero, List.set_cons_succ]
                          refine wpAnyH_more (S' := (fun W => ((fun W => ((fun _ => True) W) ∧ W.cell? ⟨wc.heap.size, qn, none⟩ = some (.int .i64 st)) W) ∧ W.cell? ⟨(wc.heap.size + 2), 0, none⟩ = some (.int .u8 ((cb.toNat : Nat) : Int)))) (fun _ h => h.1) _ _ _ _ ?_
                          have hHeld2 : (fun W => ((fun W => ((fun _ => True) W) ∧ W.cell? ⟨wc.heap.size, qn, none⟩ = some (.int .i64 st)) W) ∧ W.cell? ⟨(wc.heap.size + 2), 0, none⟩ = some (.int .u8 ((cb.toNat : Nat) : Int))) (((wc.drew.alloc (.cells #[.int .i64 200, .int .i64 301, .int .i64 302, .int .i64 304, .int .i64 500, .int .i64 0] 3)).alloc (.cells #[.bool false, .int .i64 0, .string ⟨#[]⟩, .string ⟨#[]⟩, .string ⟨#[]⟩, .slice none 0 0] 48)).alloc (.cells #[.int .u8 ((cb.toNat : Nat) : Int)] 5)) := (by exact ⟨⟨trivial, (cell_on (cell_on (cellS (W := wc.drew) (k := 0) (by simp) hqn6 HST.out) (.cells #[.bool false, .int .i64 0, .string ⟨#[]⟩, .string ⟨#[]⟩, .string ⟨#[]⟩, .slice none 0 0] 48)) (.cells #[.int .u8 ((cb.toNat : Nat) : Int)] 5))⟩, (cellB (W := ((wc.drew.alloc (.cells #[.int .i64 200, .int .i64 301, .int .i64 302, .int .i64 304, .int .i64 500, .int .i64 0] 3)).alloc (.cells #[.bool false, .int .i64 0, .string ⟨#[]⟩, .string ⟨#[]⟩, .string ⟨#[]⟩, .slice none 0 0] 48))) (cb := cb) (k := 2) (by simp))⟩)
                          clear hHeld
                          refine wpAnyH_take (i := 10) (v := .string (bs [cb])) rfl (by kernel_rfl) (by kernel_rfl) (by kernel_rfl) (fun _ _ _ h => h) (Or.inl ⟨by kernel_rfl, ?zz15⟩) (by assumption) ?_
                          case zz15 => (intro w hSw; exact run_convX (.tmp 80) rfl rfl hSw.2)
                          try simp only [Act.put, List.getElem_toArray, List.getElem_cons_succ, List.getElem_cons_zero, List.setIfInBounds_toArray, List.set_cons_zero, List.set_cons_succ]
                          refine wpAnyH_take (i := 11) (v := .string (bs (hJ ++ [cb]))) rfl (by kernel_rfl) (by kernel_rfl) (by kernel_rfl) (fun _ _ _ h => h) (Or.inl ⟨by kernel_rfl, ?zz16⟩) (by assumption) ?_
                          case zz16 => (intro w hSw; exact run_catX (.tmp 81) _ rfl rfl)
                          try simp only [Act.put, List.getElem_toArray, List.getElem_cons_succ, List.getElem_cons_zero, List.setIfInBounds_toArray, List.set_cons_zero, List.set_cons_succ]
                          refine wpAnyH_take (i := 15) (v := .agg (acs ⟨lost, st, hJ ++ [cb], [], [], .slice none 0 0⟩).toArray) rfl (by kernel_rfl) (by kernel_rfl) (by kernel_rfl) (fun _ _ _ h => h) (Or.inl ⟨by kernel_rfl, ?y17⟩) (by assumption) ?_
                          case y17 => (intro w hSw; (try dsimp only at hSw); go_simp; try rfl)
                          try simp only [Act.put, List.getElem_toArray, List.getElem_cons_succ, List.getElem_cons_zero, List.setIfInBounds_toArray, List.set_cons_zero, List.set_cons_succ]
                          have hb0 : Blk (((wc.drew.alloc (.cells #[.int .i64 200, .int .i64 301, .int .i64 302, .int .i64 304, .int .i64 500, .int .i64 0] 3)).alloc (.cells #[.bool false, .int .i64 0, .string ⟨#[]⟩, .string ⟨#[]⟩, .string ⟨#[]⟩, .slice none 0 0] 48)).alloc (.cells #[.int .u8 ((cb.toNat : Nat) : Int)] 5)) (wc.heap.size + 1) 48 [.bool false, .int .i64 0, .string ⟨#[]⟩, .string ⟨#[]⟩, .string ⟨#[]⟩, .slice none 0 0] := (blk_alloc (blk48 (W := (wc.drew.alloc (.cells #[.int .i64 200, .int .i64 301, .int .i64 302, .int .i64 304, .int .i64 500, .int .i64 0] 3))) (k := 1) (by simp)) (.cells #[.int .u8 ((cb.toNat : Nat) : Int)] 5))
                          have hbl : Below wc.heap.size wc (((wc.drew.alloc (.cells #[.int .i64 200, .int .i64 301, .int .i64 302, .int .i64 304, .int .i64 500, .int .i64 0] 3)).alloc (.cells #[.bool false, .int .i64 0, .string ⟨#[]⟩, .string ⟨#[]⟩, .string ⟨#[]⟩, .slice none 0 0] 48)).alloc (.cells #[.int .u8 ((cb.toNat : Nat) : Int)] 5)) := below_three wc _ _ _
                          refine wpAnyH_storeR 17 rfl (by kernel_rfl) (by kernel_rfl) 48 (.tmp 14) (.tmp 86) rfl (wc.heap.size + 1) (acs ⟨lost, st, hJ ++ [cb], [], [], .slice none 0 0⟩).toArray (by rfl) (by rfl) 48 _ hb0 info48 rfl (by rw [← Array.all_toList]; rfl) ?_
                          intro X4 hb1 ht1
                          have HBk := Lib.hid (show Blk X4 (wc.heap.size + 1) 48 (acs ⟨lost, st, hJ ++ [cb], [], [], .slice none 0 0⟩) from hb1)
                          have H5 := Lib.hid (H3.out.call (ht1.below wc.heap.size wc (by simp) hbl))
                          clear hb0 hbl
                          refine ⟨(by exact ⟨⟨trivial, cell_turn ht1 (by simp) hHeld2.1.2⟩, cell_turn ht1 (by simp) hHeld2.2⟩), fun hHeld => ?_⟩
                          clear hb1 ht1
                          try simp only [Act.put, List.getElem_toArray, List.getElem_cons_succ, List.getElem_cons_zero, List.setIfInBounds_toArray, List.set_cons_zero, List.set_cons_succ]
                          refine wpAnyH_done (by kernel_rfl) ?_ _
                          refine NoPanic.normal ?_
                          try simp only [Act.put, List.getElem_toArray, List.getElem_cons_succ, List.getElem_cons_zero, List.setIfInBounds_toArray, List.set_cons_zero, List.set_cons_succ]
                          go_wp2_with fail
                          go_meet
                          exact ⟨(wc.heap.size + 1), hJ ++ [cb], st, rfl, hst, by simp [hJ], Nat.le_trans hhi (by simp), HBk, H5⟩
                    · rw [if_pos (by kernel_rfl)]
                      refine wp_ran (run_bs46 (g := wc.heap.size) (by simp) (.tmp 79) rfl rfl) (hKX.out _ _ (by exact trivial) (fun hHeld => ?_))
                      clear hKX KX
                      try simp only [Act.put, List.getElem_toArray, List.getElem_cons_succ, List.getElem_cons_zero, List.setIfInBounds_toArray, List.set_cons_zero, List.set_cons_succ]
                      refine wpAnyH_more (S' := (fun W => ((fun _ => True) W) ∧ W.cell? ⟨wc.heap.size, 0, none⟩ = some (.int .u8 ((cb.toNat : Nat) : Int)))) (fun _ h => h.1) _ _ _ _ ?_
                      have hHeld2 : (fun W => ((fun _ => True) W) ∧ W.cell? ⟨wc.heap.size, 0, none⟩ = some (.int .u8 ((cb.toNat : Nat) : Int))) (wc.drew.alloc (.cells #[.int .u8 ((cb.toNat : Nat) : Int)] 5)) := (by exact ⟨trivial, (cellB (W := wc.drew) (cb := cb) (k := 0) (by simp))⟩)
                      clear hHeld
                      refine wpAnyH_take (i := 10) (v := .string (bs [cb])) rfl (by kernel_rfl) (by kernel_rfl) (by kernel_rfl) (fun _ _ _ h => h) (Or.inl ⟨by kernel_rfl, ?zz18⟩) (by assumption) ?_
                      case zz18 => (intro w hSw; exact run_convX (.tmp 80) rfl rfl hSw.2)
                      try simp only [Act.put, List.getElem_toArray, List.getElem_cons_succ, List.getElem_cons_zero, List.setIfInBounds_toArray, List.set_cons_zero, List.set_cons_succ]
                      refine wpAnyH_take (i := 11) (v := .string (bs (hJ ++ [cb]))) rfl (by kernel_rfl) (by kernel_rfl) (by kernel_rfl) (fun _ _ _ h => h) (Or.inl ⟨by kernel_rfl, ?zz19⟩) (by assumption) ?_
                      case zz19 => (intro w hSw; exact run_catX (.tmp 81) _ rfl rfl)
                      try simp only [Act.put, List.getElem_toArray, List.getElem_cons_succ, List.getElem_cons_zero, List.setIfInBounds_toArray, List.set_cons_zero, List.set_cons_succ]
                      refine wpAnyH_ready (rs := [0, 16]) (by kernel_rfl) (by simp) ?_
                      refine (AllReadyH.cons rfl (fun KX hKX => ?_) (AllReadyH.cons rfl (fun KX hKX => ?_) AllReadyH.nil))
                      · rw [if_pos (by kernel_rfl)]
                        refine wp_ran (run_bs70 (g := (wc.heap.size + 1)) (by simp) rfl) (hKX.out _ _ (by exact ⟨trivial, (cell_on (cellB (W := wc.drew) (cb := cb) (k := 0) (by simp)) (.cells #[.int .i64 200, .int .i64 301, .int .i64 302, .int .i64 304, .int .i64 500, .int .i64 0] 3))⟩) (fun hHeld => ?_))
                        clear hKX KX
                        try simp only [Act.put, List.getElem_toArray, List.getElem_cons_succ, List.getElem_cons_zero, List.setIfInBounds_toArray, List.set_cons_zero, List.set_cons_succ]
                        refine wpAnyH_more (S' := (fun W => ((fun W => ((fun _ => True) W) ∧ W.cell? ⟨wc.heap.size, 0, none⟩ = some (.int .u8 ((cb.toNat : Nat) : Int))) W) ∧ W.cell? ⟨(wc.heap.size + 1), qn, none⟩ = some (.int .i64 st))) (fun _ h => h.1) _ _ _ _ ?_
                        have hHeld2 : (fun W => ((fun W => ((fun _ => True) W) ∧ W.cell? ⟨wc.heap.size, 0, none⟩ = some (.int .u8 ((cb.toNat : Nat) : Int))) W) ∧ W.cell? ⟨(wc.heap.size + 1), qn, none⟩ = some (.int .i64 st)) ((wc.drew.alloc (.cells #[.int .u8 ((cb.toNat : Nat) : Int)] 5)).alloc (.cells #[.int .i64 200, .int .i64 301, .int .i64 302, .int .i64 304, .int .i64 500, .int .i64 0] 3)) := (by exact ⟨⟨trivial, (cell_on (cellB (W := wc.drew) (cb := cb) (k := 0) (by simp)) (.cells #[.int .i64 200, .int .i64 301, .int .i64 302, .int .i64 304, .int .i64 500, .int .i64 0] 3))⟩, (cellS (W := (wc.drew.alloc (.cells #[.int .u8 ((cb.toNat : Nat) : Int)] 5))) (k := 1) (by simp) hqn6 HST.out)⟩)
                        clear hHeld
                        refine wpAnyH_take (i := 4) (v := .pointer (some ⟨(wc.heap.size + 1), qn, none⟩)) rfl (by kernel_rfl) (by kernel_rfl) (by kernel_rfl) (fun _ _ _ h => h) (Or.inl ⟨by kernel_rfl, ?y20⟩) (by assumption) ?_
                        case y20 => (intro w hSw; (try dsimp only at hSw); go_simp; try with_reducible rfl)
                        try simp only [Act.put, List.getElem_toArray, List.getElem_cons_succ, List.getElem_cons_zero, List.setIfInBounds_toArray, List.set_cons_zero, List.set_cons_succ]
                        refine wpAnyH_take (i := 5) (v := .int .i64 st) rfl (by kernel_rfl) (by kernel_rfl) (by kernel_rfl) (fun _ _ _ h => h) (Or.inl ⟨by kernel_rfl, ?y21⟩) (by assumption) ?_
                        case y21 => (intro w hSw; (try dsimp only at hSw); go_simp; try with_reducible rfl)
                        try simp only [Act.put, List.getElem_toArray, List.getElem_cons_succ, List.getElem_cons_zero, List.setIfInBounds_toArray, List.set_cons_zero, List.set_cons_succ]
                        refine wpAnyH_take (i := 15) (v := .agg (acs ⟨lost, st, hJ ++ [cb], [], [], .slice none 0 0⟩).toArray) rfl (by kernel_rfl) (by kernel_rfl) (by kernel_rfl) (fun _ _ _ h => h) (Or.inl ⟨by kernel_rfl, ?y22⟩) (by assumption) ?_
                        case y22 => (intro w hSw; (try dsimp only at hSw); go_simp; try rfl)
                        try simp only [Act.put, List.getElem_toArray, List.getElem_cons_succ, List.getElem_cons_zero, List.setIfInBounds_toArray, List.set_cons_zero, List.set_cons_succ]
                        refine wpAnyH_ready (rs := [16]) (by kernel_rfl) (by simp) ?_
                        refine (AllReadyH.cons rfl (fun KX hKX => ?_) AllReadyH.nil)
                        · rw [if_pos (by kernel_rfl)]
                          refine wp_ran (run_alloc48 (g := (wc.heap.size + 2)) (by simp) rfl) (hKX.out _ _ (by exact ⟨⟨trivial, (cell_on (cell_on (cellB (W := wc.drew) (cb := cb) (k := 0) (by simp)) (.cells #[.int .i64 200, .int .i64 301, .int .i64 302, .int .i64 304, .int .i64 500, .int .i64 0] 3)) (.cells #[.bool false, .int .i64 0, .string ⟨#[]⟩, .string ⟨#[]⟩, .string ⟨#[]⟩, .slice none 0 0] 48))⟩, (cell_on (cellS (W := (wc.drew.alloc (.cells #[.int .u8 ((cb.toNat : Nat) : Int)] 5))) (k := 1) (by simp) hqn6 HST.out) (.cells #[.bool false, .int .i64 0, .string ⟨#[]⟩, .string ⟨#[]⟩, .string ⟨#[]⟩, .slice none 0 0] 48))⟩) (fun hHeld => ?_))
                          clear hKX KX
                          try simp only [Act.put, List.getElem_toArray, List.getElem_cons_succ, List.getElem_cons_zero, List.setIfInBounds_toArray, List.set_cons_zero, List.set_cons_succ]
                          have hb0 : Blk (((wc.drew.alloc (.cells #[.int .u8 ((cb.toNat : Nat) : Int)] 5)).alloc (.cells #[.int .i64 200, .int .i64 301, .int .i64 302, .int .i64 304, .int .i64 500, .int .i64 0] 3)).alloc (.cells #[.bool false, .int .i64 0, .string ⟨#[]⟩, .string ⟨#[]⟩, .string ⟨#[]⟩, .slice none 0 0] 48)) (wc.heap.size + 2) 48 [.bool false, .int .i64 0, .string ⟨#[]⟩, .string ⟨#[]⟩, .string ⟨#[]⟩, .slice none 0 0] := (blk48 (W := ((wc.drew.alloc (.cells #[.int .u8 ((cb.toNat : Nat) : Int)] 5)).alloc (.cells #[.int .i64 200, .int .i64 301, .int .i64 302, .int .i64 304, .int .i64 500, .int .i64 0] 3))) (k := 2) (by simp))
                          have hbl : Below wc.heap.size wc (((wc.drew.alloc (.cells #[.int .u8 ((cb.toNat : Nat) : Int)] 5)).alloc (.cells #[.int .i64 200, .int .i64 301, .int .i64 302, .int .i64 304, .int .i64 500, .int .i64 0] 3)).alloc (.cells #[.bool false, .int .i64 0, .string ⟨#[]⟩, .string ⟨#[]⟩, .string ⟨#[]⟩, .slice none 0 0] 48)) := below_three wc _ _ _
                          refine wpAnyH_storeR 17 rfl (by kernel_rfl) (by kernel_rfl) 48 (.tmp 14) (.tmp 86) rfl (wc.heap.size + 2) (acs ⟨lost, st, hJ ++ [cb], [], [], .slice none 0 0⟩).toArray (by rfl) (by rfl) 48 _ hb0 info48 rfl (by rw [← Array.all_toList]; rfl) ?_
                          intro X4 hb1 ht1
                          have HBk := Lib.hid (show Blk X4 (wc.heap.size + 2) 48 (acs ⟨lost, st, hJ ++ [cb], [], [], .slice none 0 0⟩) from hb1)
                          have H5 := Lib.hid (H3.out.call (ht1.below wc.heap.size wc (by simp) hbl))
                          clear hb0 hbl
                          refine ⟨(by exact ⟨⟨trivial, cell_turn ht1 (by simp) hHeld.1.2⟩, cell_turn ht1 (by simp) hHeld.2⟩), fun hHeld => ?_⟩
                          clear hb1 ht1
                          try simp only [Act.put, List.getElem_toArray, List.getElem_cons_succ, List.getElem_cons_zero, List.setIfInBounds_toArray, List.set_cons_zero, List.set_cons_succ]
                          refine wpAnyH_done (by kernel_rfl) ?_ _
                          refine NoPanic.normal ?_
                          try simp only [Act.put, List.getElem_toArray, List.getElem_cons_succ, List.getElem_cons_zero, List.setIfInBounds_toArray, List.set_cons_zero, List.set_cons_succ]
                          go_wp2_with fail
                          go_meet
                          exact ⟨(wc.heap.size + 2), hJ ++ [cb], st, rfl, hst, by simp [hJ], Nat.le_trans hhi (by simp), HBk, H5⟩
                      · rw [if_pos (by kernel_rfl)]
                        refine wp_ran (run_alloc48 (g := (wc.heap.size + 1)) (by simp) rfl) (hKX.out _ _ (by exact ⟨trivial, (cell_on (cellB (W := wc.drew) (cb := cb) (k := 0) (by simp)) (.cells #[.bool false, .int .i64 0, .string ⟨#[]⟩, .string ⟨#[]⟩, .string ⟨#[]⟩, .slice none 0 0] 48))⟩) (fun hHeld => ?_))
                        clear hKX KX
                        try simp only [Act.put, List.getElem_toArray, List.getElem_cons_succ, List.getElem_cons_zero, List.setIfInBounds_toArray, List.set_cons_zero, List.set_cons_succ]
                        refine wpAnyH_ready (rs := [0]) (by kernel_rfl) (by simp) ?_
                        refine (AllReadyH.cons rfl (fun KX hKX => ?_) AllReadyH.nil)
                        · rw [if_pos (by kernel_rfl)]
                          refine wp_ran (run_bs70 (g := (wc.heap.size + 2)) (by simp) rfl) (hKX.out _ _ (by exact ⟨trivial, (cell_on (cell_on (cellB (W := wc.drew) (cb := cb) (k := 0) (by simp)) (.cells #[.bool false, .int .i64 0, .string ⟨#[]⟩, .string ⟨#[]⟩, .string ⟨#[]⟩, .slice none 0 0] 48)) (.cells #[.int .i64 200, .int .i64 301, .int .i64 302, .int .i64 304, .int .i64 500, .int .i64 0] 3))⟩) (fun hHeld => ?_))
                          clear hKX KX
                          try simp only [Act.put, List.getElem_toArray, List.getElem_cons_succ, List.getElem_cons_zero, List.setIfInBounds_toArray, List.set_cons_zero, List.set_cons_succ]
                          refine wpAnyH_more (S' := (fun W => ((fun W => ((fun _ => True) W) ∧ W.cell? ⟨wc.heap.size, 0, none⟩ = some (.int .u8 ((cb.toNat : Nat) : Int))) W) ∧ W.cell? ⟨(wc.heap.size + 2), qn, none⟩ = some (.int .i64 st))) (fun _ h => h.1) _ _ _ _ ?_
                          have hHeld2 : (fun W => ((fun W => ((fun _ => True) W) ∧ W.cell? ⟨wc.heap.size, 0, none⟩ = some (.int .u8 ((cb.toNat : Nat) : Int))) W) ∧ W.cell? ⟨(wc.heap.size + 2), qn, none⟩ = some (.int .i64 st)) (((wc.drew.alloc (.cells #[.int .u8 ((cb.toNat : Nat) : Int)] 5)).alloc (.cells #[.bool false, .int .i64 0, .string ⟨#[]⟩, .string ⟨#[]⟩, .string ⟨#[]⟩, .slice none 0 0] 48)).alloc (.cells #[.int .i64 200, .int .i64 301, .int .i64 302, .int .i64 304, .int .i64 500, .int .i64 0] 3)) := (by exact ⟨⟨trivial, (cell_on (cell_on (cellB (W := wc.drew) (cb := cb) (k := 0) (by simp)) (.cells #[.bool false, .int .i64 0, .string ⟨#[]⟩, .string ⟨#[]⟩, .string ⟨#[]⟩, .slice none 0 0] 48)) (.cells #[.int .i64 200, .int .i64 301, .int .i64 302, .int .i64 304, .int .i64 500, .int .i64 0] 3))⟩, (cellS (W := ((wc.drew.alloc (.cells #[.int .u8 ((cb.toNat : Nat) : Int)] 5)).alloc (.cells #[.bool false, .int .i64 0, .string ⟨#[]⟩, .string ⟨#[]⟩, .string ⟨#[]⟩, .slice none 0 0] 48))) (k := 2) (by simp) hqn6 HST.out)⟩)
                          clear hHeld
                          refine wpAnyH_take (i := 4) (v := .pointer (some ⟨(wc.heap.size + 2), qn, none⟩)) rfl (by kernel_rfl) (by kernel_rfl) (by kernel_rfl) (fun _ _ _ h => h) (Or.inl ⟨by kernel_rfl, ?y23⟩) (by assumption) ?_
                          case y23 => (intro w hSw; (try dsimp only at hSw); go_simp; try with_reducible rfl)
                          try simp only [Act.put, List.getElem_toArray, List.getElem_cons_succ, List.getElem_cons_zero, List.setIfInBounds_toArray, List.set_cons_zero, List.set_cons_succ]
                          refine wpAnyH_take (i := 5) (v := .int .i64 st) rfl (by kernel_rfl) (by kernel_rfl) (by kernel_rfl) (fun _ _ _ h => h) (Or.inl ⟨by kernel_rfl, ?y24⟩) (by assumption) ?_
                          case y24 => (intro w hSw; (try dsimp only at hSw); go_simp; try with_reducible rfl)
                          try simp only [Act.put, List.getElem_toArray, List.getElem_cons_succ, List.getElem_cons_zero, List.setIfInBounds_toArray, List.set_cons_zero, List.set_cons_succ]
                          refine wpAnyH_take (i := 15) (v := .agg (acs ⟨lost, st, hJ ++ [cb], [], [], .slice none 0 0⟩).toArray) rfl (by kernel_rfl) (by kernel_rfl) (by kernel_rfl) (fun _ _ _ h => h) (Or.inl ⟨by kernel_rfl, ?y25⟩) (by assumption) ?_
                          case y25 => (intro w hSw; (try dsimp only at hSw); go_simp; try rfl)
                          try simp only [Act.put, List.getElem_toArray, List.getElem_cons_succ, List.getElem_cons_zero, List.setIfInBounds_toArray, List.set_cons_zero, List.set_cons_succ]
                          have hb0 : Blk (((wc.drew.alloc (.cells #[.int .u8 ((cb.toNat : Nat) : Int)] 5)).alloc (.cells #[.bool false, .int .i64 0, .string ⟨#[]⟩, .string ⟨#[]⟩, .string ⟨#[]⟩, .slice none 0 0] 48)).alloc (.cells #[.int .i64 200, .int .i64 301, .int .i64 302, .int .i64 304, .int .i64 500, .int .i64 0] 3)) (wc.heap.size + 1) 48 [.bool false, .int .i64 0, .string ⟨#[]⟩, .string ⟨#[]⟩, .string ⟨#[]⟩, .slice none 0 0] := (blk_alloc (blk48 (W := (wc.drew.alloc (.cells #[.int .u8 ((cb.toNat : Nat) : Int)] 5))) (k := 1) (by simp)) (.cells #[.int .i64 200, .int .i64 301, .int .i64 302, .int .i64 304, .int .i64 500, .int .i64 0] 3))
                          have hbl : Below wc.heap.size wc (((wc.drew.alloc (.cells #[.int .u8 ((cb.toNat : Nat) : Int)] 5)).alloc (.cells #[.bool false, .int .i64 0, .string ⟨#[]⟩, .string ⟨#[]⟩, .string ⟨#[]⟩, .slice none 0 0] 48)).alloc (.cells #[.int .i64 200, .int .i64 301, .int .i64 302, .int .i64 304, .int .i64 500, .int .i64 0] 3)) := below_three wc _ _ _
                          refine wpAnyH_storeR 17 rfl (by kernel_rfl) (by kernel_rfl) 48 (.tmp 14) (.tmp 86) rfl (wc.heap.size + 1) (acs ⟨lost, st, hJ ++ [cb], [], [], .slice none 0 0⟩).toArray (by rfl) (by rfl) 48 _ hb0 info48 rfl (by rw [← Array.all_toList]; rfl) ?_
                          intro X4 hb1 ht1
                          have HBk := Lib.hid (show Blk X4 (wc.heap.size + 1) 48 (acs ⟨lost, st, hJ ++ [cb], [], [], .slice none 0 0⟩) from hb1)
                          have H5 := Lib.hid (H3.out.call (ht1.below wc.heap.size wc (by simp) hbl))
                          clear hb0 hbl
                          refine ⟨(by exact ⟨⟨trivial, cell_turn ht1 (by simp) hHeld2.1.2⟩, cell_turn ht1 (by simp) hHeld2.2⟩), fun hHeld => ?_⟩
                          clear hb1 ht1
                          try simp only [Act.put, List.getElem_toArray, List.getElem_cons_succ, List.getElem_cons_zero, List.setIfInBounds_toArray, List.set_cons_zero, List.set_cons_succ]
                          refine wpAnyH_done (by kernel_rfl) ?_ _
                          refine NoPanic.normal ?_
                          try simp only [Act.put, List.getElem_toArray, List.getElem_cons_succ, List.getElem_cons_zero, List.setIfInBounds_toArray, List.set_cons_zero, List.set_cons_succ]
                          go_wp2_with fail
                          go_meet
                          exact ⟨(wc.heap.size + 1), hJ ++ [cb], st, rfl, hst, by simp [hJ], Nat.le_trans hhi (by simp), HBk, H5⟩
                    · rw [if_pos (by kernel_rfl)]
                      refine wp_ran (run_alloc48 (g := wc.heap.size) (by simp) rfl) (hKX.out _ _ (by exact trivial) (fun hHeld => ?_))
                      clear hKX KX
                      try simp only [Act.put, List.getElem_toArray, List.getElem_cons_succ, List.getElem_cons_zero, List.setIfInBounds_toArray, List.set_cons_zero, List.set_cons_succ]
                      refine wpAnyH_ready (rs := [0, 9]) (by kernel_rfl) (by simp) ?_
                      refine (AllReadyH.cons rfl (fun KX hKX => ?_) (AllReadyH.cons rfl (fun KX hKX => ?_) AllReadyH.nil))
                      · rw [if_pos (by kernel_rfl)]
                        refine wp_ran (run_bs70 (g := (wc.heap.size + 1)) (by simp) rfl) (hKX.out _ _ (by exact trivial) (fun hHeld => ?_))
                        clear hKX KX
                        try simp only [Act.put, List.getElem_toArray, List.getElem_cons_succ, List.getElem_cons_zero, List.setIfInBounds_toArray, List.set_cons_zero, List.set_cons_succ]
                        refine wpAnyH_more (S' := (fun W => ((fun _ => True) W) ∧ W.cell? ⟨(wc.heap.size + 1), qn, none⟩ = some (.int .i64 st))) (fun _ h => h.1) _ _ _ _ ?_
                        have hHeld2 : (fun W => ((fun _ => True) W) ∧ W.cell? ⟨(wc.heap.size + 1), qn, none⟩ = some (.int .i64 st)) ((wc.drew.alloc (.cells #[.bool false, .int .i64 0, .string ⟨#[]⟩, .string ⟨#[]⟩, .string ⟨#[]⟩, .slice none 0 0] 48)).alloc (.cells #[.int .i64 200, .int .i64 301, .int .i64 302, .int .i64 304, .int .i64 500, .int .i64 0] 3)) := (by exact ⟨trivial, (cellS (W := (wc.drew.alloc (.cells #[.bool false, .int .i64 0, .string ⟨#[]⟩, .string ⟨#[]⟩, .string ⟨#[]⟩, .slice none 0 0] 48))) (k := 1) (by simp) hqn6 HST.out)⟩)
                        clear hHeld
                        refine wpAnyH_take (i := 4) (v := .pointer (some ⟨(wc.heap.size + 1), qn, none⟩)) rfl (by kernel_rfl) (by kernel_rfl) (by kernel_rfl) (fun _ _ _ h => h) (Or.inl ⟨by kernel_rfl, ?y26⟩) (by assumption) ?_
                        case y26 => (intro w hSw; (try dsimp only at hSw); go_simp; try with_reducible rfl)
                        try simp only [Act.put, List.getElem_toArray, List.getElem_cons_succ, List.getElem_cons_zero, List.setIfInBounds_toArray, List.set_cons_zero, List.set_cons_succ]
                        refine wpAnyH_take (i := 5) (v := .int .i64 st) rfl (by kernel_rfl) (by kernel_rfl) (by kernel_rfl) (fun _ _ _ h => h) (Or.inl ⟨by kernel_rfl, ?y27⟩) (by assumption) ?_
                        case y27 => (intro w hSw; (try dsimp only at hSw); go_simp; try with_reducible rfl)
                        try simp only [Act.put, List.getElem_toArray, List.getElem_cons_succ, List.getElem_cons_zero, List.setIfInBounds_toArray, List.set_cons_zero, List.set_cons_succ]
                        refine wpAnyH_ready (rs := [9]) (by kernel_rfl) (by simp) ?_
                        refine (AllReadyH.cons rfl (fun KX hKX => ?_) AllReadyH.nil)
                        · rw [if_pos (by kernel_rfl)]
                          refine wp_ran (run_bs46 (g := (wc.heap.size + 2)) (by simp) (.tmp 79) rfl rfl) (hKX.out _ _ (by exact ⟨trivial, (cell_on (cellS (W := (wc.drew.alloc (.cells #[.bool false, .int .i64 0, .string ⟨#[]⟩, .string ⟨#[]⟩, .string ⟨#[]⟩, .slice none 0 0] 48))) (k := 1) (by simp) hqn6 HST.out) (.cells #[.int .u8 ((cb.toNat : Nat) : Int)] 5))⟩) (fun hHeld => ?_))
                          clear hKX KX
                          try simp only [Act.put, List.getElem_toArray, List.getElem_cons_succ, List.getElem_cons_zero, List.setIfInBounds_toArray, List.set_cons_zero, List.set_cons_succ]
                          refine wpAnyH_more (S' := (fun W => ((fun W => ((fun _ => True) W) ∧ W.cell? ⟨(wc.heap.size + 1), qn, none⟩ = some (.int .i64 st)) W) ∧ W.cell? ⟨(wc.heap.size + 2), 0, none⟩ = some (.int .u8 ((cb.toNat : Nat) : Int)))) (fun _ h => h.1) _ _ _ _ ?_
                          have hHeld2 : (fun W => ((fun W => ((fun _ => True) W) ∧ W.cell? ⟨(wc.heap.size + 1), qn, none⟩ = some (.int .i64 st)) W) ∧ W.cell? ⟨(wc.heap.size + 2), 0, none⟩ = some (.int .u8 ((cb.toNat : Nat) : Int))) (((wc.drew.alloc (.cells #[.bool false, .int .i64 0, .string ⟨#[]⟩, .string ⟨#[]⟩, .string ⟨#[]⟩, .slice none 0 0] 48)).alloc (.cells #[.int .i64 200, .int .i64 301, .int .i64 302, .int .i64 304, .int .i64 500, .int .i64 0] 3)).alloc (.cells #[.int .u8 ((cb.toNat : Nat) : Int)] 5)) := (by exact ⟨⟨trivial, (cell_on (cellS (W := (wc.drew.alloc (.cells #[.bool false, .int .i64 0, .string ⟨#[]⟩, .string ⟨#[]⟩, .string ⟨#[]⟩, .slice none 0 0] 48))) (k := 1) (by simp) hqn6 HST.out) (.cells #[.int .u8 ((cb.toNat : Nat) : Int)] 5))⟩, (cellB (W := ((wc.drew.alloc (.cells #[.bool false, .int .i64 0, .string ⟨#[]⟩, .string ⟨#[]⟩, .string ⟨#[]⟩, .slice none 0 0] 48)).alloc (.cells #[.int .i64 200, .int .i64 301, .int .i64 302, .int .i64 304, .int .i64 500, .int .i64 0] 3))) (cb := cb) (k := 2) (by simp))⟩)
                          clear hHeld
                          refine wpAnyH_take (i := 10) (v := .string (bs [cb])) rfl (by kernel_rfl) (by kernel_rfl) (by kernel_rfl) (fun _ _ _ h => h) (Or.inl ⟨by kernel_rfl, ?zz28⟩) (by assumption) ?_
                          case zz28 => (intro w hSw; exact run_convX (.tmp 80) rfl rfl hSw.2)
                          try simp only [Act.put, List.getElem_toArray, List.getElem_cons_succ, List.getElem_cons_zero, List.setIfInBounds_toArray, List.set_cons_zero, List.set_cons_succ]
                          refine wpAnyH_take (i := 11) (v := .string (bs (hJ ++ [cb]))) rfl (by kernel_rfl) (by kernel_rfl) (by kernel_rfl) (fun _ _ _ h => h) (Or.inl ⟨by kernel_rfl, ?zz29⟩) (by assumption) ?_
                          case zz29 => (intro w hSw; exact run_catX (.tmp 81) _ rfl rfl)
                          try simp only [Act.put, List.getElem_toArray, List.getElem_cons_succ, List.getElem_cons_zero, List.setIfInBounds_toArray, List.set_cons_zero, List.set_cons_succ]
                          refine wpAnyH_take (i := 15) (v := .agg (acs ⟨lost, st, hJ ++ [cb], [], [], .slice none 0 0⟩).toArray) rfl (by kernel_rfl) (by kernel_rfl) (by kernel_rfl) (fun _ _ _ h => h) (Or.inl ⟨by kernel_rfl, ?y30⟩) (by assumption) ?_
                          case y30 => (intro w hSw; (try dsimp only at hSw); go_simp; try rfl)
                          try simp only [Act.put, List.getElem_toArray, List.getElem_cons_succ, List.getElem_cons_zero, List.setIfInBounds_toArray, List.set_cons_zero, List.set_cons_succ]
                          have hb0 : Blk (((wc.drew.alloc (.cells #[.bool false, .int .i64 0, .string ⟨#[]⟩, .string ⟨#[]⟩, .string ⟨#[]⟩, .slice none 0 0] 48)).alloc (.cells #[.int .i64 200, .int .i64 301, .int .i64 302, .int .i64 304, .int .i64 500, .int .i64 0] 3)).alloc (.cells #[.int .u8 ((cb.toNat : Nat) : Int)] 5)) wc.heap.size 48 [.bool false, .int .i64 0, .string ⟨#[]⟩, .string ⟨#[]⟩, .string ⟨#[]⟩, .slice none 0 0] := (blk_alloc (blk_alloc (blk48 (W := wc.drew) (k := 0) (by simp)) (.cells #[.int .i64 200, .int .i64 301, .int .i64 302, .int .i64 304, .int .i64 500, .int .i64 0] 3)) (.cells #[.int .u8 ((cb.toNat : Nat) : Int)] 5))
                          have hbl : Below wc.heap.size wc (((wc.drew.alloc (.cells #[.bool false, .int .i64 0, .string ⟨#[]⟩, .string ⟨#[]⟩, .string ⟨#[]⟩, .slice none 0 0] 48)).alloc (.cells #[.int .i64 200, .int .i64 301, .int .i64 302, .int .i64 304, .int .i64 500, .int .i64 0] 3)).alloc (.cells #[.int .u8 ((cb.toNat : Nat) : Int)] 5)) := below_three wc _ _ _
                          refine wpAnyH_storeR 17 rfl (by kernel_rfl) (by kernel_rfl) 48 (.tmp 14) (.tmp 86) rfl wc.heap.size (acs ⟨lost, st, hJ ++ [cb], [], [], .slice none 0 0⟩).toArray (by rfl) (by rfl) 48 _ hb0 info48 rfl (by rw [← Array.all_toList]; rfl) ?_
                          intro X4 hb1 ht1
                          have HBk := Lib.hid (show Blk X4 wc.heap.size 48 (acs ⟨lost, st, hJ ++ [cb], [], [], .slice none 0 0⟩) from hb1)
                          have H5 := Lib.hid (H3.out.call (ht1.below wc.heap.size wc (by simp) hbl))
                          clear hb0 hbl
                          refine ⟨(by exact ⟨⟨trivial, cell_turn ht1 (by simp) hHeld2.1.2⟩, cell_turn ht1 (by simp) hHeld2.2⟩), fun hHeld => ?_⟩
                          clear hb1 ht1
                          try simp only [Act.put, List.getElem_toArray, List.getElem_cons_succ, List.getElem_cons_zero, List.setIfInBounds_toArray, List.set_cons_zero, List.set_cons_succ]
                          refine wpAnyH_done (by kernel_rfl) ?_ _
                          refine NoPanic.normal ?_
                          try simp only [Act.put, List.getElem_toArray, List.getElem_cons_succ, List.getElem_cons_zero, List.setIfInBounds_toArray, List.set_cons_zero, List.set_cons_succ]
                          go_wp2_with fail
                          go_meet
                          exact ⟨wc.heap.size, hJ ++ [cb], st, rfl, hst, by simp [hJ], Nat.le_trans hhi (by simp), HBk, H5⟩
                      · rw [if_pos (by kernel_rfl)]
                        refine wp_ran (run_bs46 (g := (wc.heap.size + 1)) (by simp) (.tmp 79) rfl rfl) (hKX.out _ _ (by exact trivial) (fun hHeld => ?_))
                        clear hKX KX
                        try simp only [Act.put, List.getElem_toArray, List.getElem_cons_succ, List.getElem_cons_zero, List.setIfInBounds_toArray, List.set_cons_zero, List.set_cons_succ]
                        refine wpAnyH_more (S' := (fun W => ((fun _ => True) W) ∧ W.cell? ⟨(wc.heap.size + 1), 0, none⟩ = some (.int .u8 ((cb.toNat : Nat) : Int)))) (fun _ h => h.1) _ _ _ _ ?_
                        have hHeld2 : (fun W => ((fun _ => True) W) ∧ W.cell? ⟨(wc.heap.size + 1), 0, none⟩ = some (.int .u8 ((cb.toNat : Nat) : Int))) ((wc.drew.alloc (.cells #[.bool false, .int .i64 0, .string ⟨#[]⟩, .string ⟨#[]⟩, .string ⟨#[]⟩, .slice none 0 0] 48)).alloc (.cells #[.int .u8 ((cb.toNat : Nat) : Int)] 5)) := (by exact ⟨trivial, (cellB (W := (wc.drew.alloc (.cells #[.bool false, .int .i64 0, .string ⟨#[]⟩, .string ⟨#[]⟩, .string ⟨#[]⟩, .slice none 0 0] 48))) (cb := cb) (k := 1) (by simp))⟩)
                        clear hHeld
                        refine wpAnyH_take (i := 10) (v := .string (bs [cb])) rfl (by kernel_rfl) (by kernel_rfl) (by kernel_rfl) (fun _ _ _ h => h) (Or.inl ⟨by kernel_rfl, ?zz31⟩) (by assumption) ?_
                        case zz31 => (intro w hSw; exact run_convX (.tmp 80) rfl rfl hSw.2)
                        try simp only [Act.put, List.getElem_toArray, List.getElem_cons_succ, List.getElem_cons_zero, List.setIfInBounds_toArray, List.set_cons_zero, List.set_cons_succ]
                        refine wpAnyH_take (i := 11) (v := .string (bs (hJ ++ [cb]))) rfl (by kernel_rfl) (by kernel_rfl) (by kernel_rfl) (fun _ _ _ h => h) (Or.inl ⟨by kernel_rfl, ?zz32⟩) (by assumption) ?_
                        case zz32 => (intro w hSw; exact run_catX (.tmp 81) _ rfl rfl)
                        try simp only [Act.put, List.getElem_toArray, List.getElem_cons_succ, List.getElem_cons_zero, List.setIfInBounds_toArray, List.set_cons_zero, List.set_cons_succ]
                        refine wpAnyH_ready (rs := [0]) (by kernel_rfl) (by simp) ?_
                        refine (AllReadyH.cons rfl (fun KX hKX => ?_) AllReadyH.nil)
                        · rw [if_pos (by kernel_rfl)]
                          refine wp_ran (run_bs70 (g := (wc.heap.size + 2)) (by simp) rfl) (hKX.out _ _ (by exact ⟨trivial, (cell_on (cellB (W := (wc.drew.alloc (.cells #[.bool false, .int .i64 0, .string ⟨#[]⟩, .string ⟨#[]⟩, .string ⟨#[]⟩, .slice none 0 0] 48))) (cb := cb) (k := 1) (by simp)) (.cells #[.int .i64 200, .int .i64 301, .int .i64 302, .int .i64 304, .int .i64 500, .int .i64 0] 3))⟩) (fun hHeld => ?_))
                          clear hKX KX
                          try simp only [Act.put, List.getElem_toArray, List.getElem_cons_succ, List.getElem_cons_zero, List.setIfInBounds_toArray, List.set_cons_zero, List.set_cons_succ]
                          refine wpAnyH_more (S' := (fun W => ((fun W => ((fun _ => True) W) ∧ W.cell? ⟨(wc.heap.size + 1), 0, none⟩ = some (.int .u8 ((cb.toNat : Nat) : Int))) W) ∧ W.cell? ⟨(wc.heap.size + 2), qn, none⟩ = some (.int .i64 st))) (fun _ h => h.1) _ _ _ _ ?_
                          have hHeld2 : (fun W => ((fun W => ((fun _ => True) W) ∧ W.cell? ⟨(wc.heap.size + 1), 0, none⟩ = some (.int .u8 ((cb.toNat : Nat) : Int))) W) ∧ W.cell? ⟨(wc.heap.size + 2), qn, none⟩ = some (.int .i64 st)) (((wc.drew.alloc (.cells #[.bool false, .int .i64 0, .string ⟨#[]⟩, .string ⟨#[]⟩, .string ⟨#[]⟩, .slice none 0 0] 48)).alloc (.cells #[.int .u8 ((cb.toNat : Nat) : Int)] 5)).alloc (.cells #[.int .i64 200, .int .i64 301, .int .i64 302, .int .i64 304, .int .i64 500, .int .i64 0] 3)) := (by exact ⟨⟨trivial, (cell_on (cellB (W := (wc.drew.alloc (.cells #[.bool false, .int .i64 0, .string ⟨#[]⟩, .string ⟨#[]⟩, .string ⟨#[]⟩, .slice none 0 0] 48))) (cb := cb) (k := 1) (by simp)) (.cells #[.int .i64 200, .int .i64 301, .int .i64 302, .int .i64 304, .int .i64 500, .int .i64 0] 3))⟩, (cellS (W := ((wc.drew.alloc (.cells #[.bool false, .int .i64 0, .string ⟨#[]⟩, .string ⟨#[]⟩, .string ⟨#[]⟩, .slice none 0 0] 48)).alloc (.cells #[.int .u8 ((cb.toNat : Nat) : Int)] 5))) (k := 2) (by simp) hqn6 HST.out)⟩)
                          clear hHeld
                          refine wpAnyH_take (i := 4) (v := .pointer (some ⟨(wc.heap.size + 2), qn, none⟩)) rfl (by kernel_rfl) (by kernel_rfl) (by kernel_rfl) (fun _ _ _ h => h) (Or.inl ⟨by kernel_rfl, ?y33⟩) (by assumption) ?_
                          case y33 => (intro w hSw; (try dsimp only at hSw); go_simp; try with_reducible rfl)
                          try simp only [Act.put, List.getElem_toArray, List.getElem_cons_succ, List.getElem_cons_zero, List.setIfInBounds_toArray, List.set_cons_zero, List.set_cons_succ]
                          refine wpAnyH_take (i := 5) (v := .int .i64 st) rfl (by kernel_rfl) (by kernel_rfl) (by kernel_rfl) (fun _ _ _ h => h) (Or.inl ⟨by kernel_rfl, ?y34⟩) (by assumption) ?_
                          case y34 => (intro w hSw; (try dsimp only at hSw); go_simp; try with_reducible rfl)
                          try simp only [Act.put, List.getElem_toArray, List.getElem_cons_succ, List.getElem_cons_zero, List.setIfInBounds_toArray, List.set_cons_zero, List.set_cons_succ]
                          refine wpAnyH_take (i := 15) (v := .agg (acs ⟨lost, st, hJ ++ [cb], [], [], .slice none 0 0⟩).toArray) rfl (by kernel_rfl) (by kernel_rfl) (by kernel_rfl) (fun _ _ _ h => h) (Or.inl ⟨by kernel_rfl, ?y35⟩) (by assumption) ?_
                          case y35 => (intro w hSw; (try dsimp only at hSw); go_simp; try rfl)
                          try simp only [Act.put, List.getElem_toArray, List.getElem_cons_succ, List.getElem_cons_zero, List.setIfInBounds_toArray, List.set_cons_zero, List.set_cons_succ]
                          have hb0 : Blk (((wc.drew.alloc (.cells #[.bool false, .int .i64 0, .string ⟨#[]⟩, .string ⟨#[]⟩, .string ⟨#[]⟩, .slice none 0 0] 48)).alloc (.cells #[.int .u8 ((cb.toNat : Nat) : Int)] 5)).alloc (.cells #[.int .i64 200, .int .i64 301, .int .i64 302, .int .i64 304, .int .i64 500, .int .i64 0] 3)) wc.heap.size 48 [.bool false, .int .i64 0, .string ⟨#[]⟩, .string ⟨#[]⟩, .string ⟨#[]⟩, .slice none 0 0] := (blk_alloc (blk_alloc (blk48 (W := wc.drew) (k := 0) (by simp)) (.cells #[.int .u8 ((cb.toNat : Nat) : Int)] 5)) (.cells #[.int .i64 200, .int .i64 301, .int .i64 302, .int .i64 304, .int .i64 500, .int .i64 0] 3))
                          have hbl : Below wc.heap.size wc (((wc.drew.alloc (.cells #[.bool false, .int .i64 0, .string ⟨#[]⟩, .string ⟨#[]⟩, .string ⟨#[]⟩, .slice none 0 0] 48)).alloc (.cells #[.int .u8 ((cb.toNat : Nat) : Int)] 5)).alloc (.cells #[.int .i64 200, .int .i64 301, .int .i64 302, .int .i64 304, .int .i64 500, .int .i64 0] 3)) := below_three wc _ _ _
                          refine wpAnyH_storeR 17 rfl (by kernel_rfl) (by kernel_rfl) 48 (.tmp 14) (.tmp 86) rfl wc.heap.size (acs ⟨lost, st, hJ ++ [cb], [], [], .slice none 0 0⟩).toArray (by rfl) (by rfl) 48 _ hb0 info48 rfl (by rw [← Array.all_toList]; rfl) ?_
                          intro X4 hb1 ht1
                          have HBk := Lib.hid (show Blk X4 wc.heap.size 48 (acs ⟨lost, st, hJ ++ [cb], [], [], .slice none 0 0⟩) from hb1)
                          have H5 := Lib.hid (H3.out.call (ht1.below wc.heap.size wc (by simp) hbl))
                          clear hb0 hbl
                          refine ⟨(by exact ⟨⟨trivial, cell_turn ht1 (by simp) hHeld2.1.2⟩, cell_turn ht1 (by simp) hHeld2.2⟩), fun hHeld => ?_⟩
                          clear hb1 ht1
                          try simp only [Act.put, List.getElem_toArray, List.getElem_cons_succ, List.getElem_cons_zero, List.setIfInBounds_toArray, List.set_cons_zero, List.set_cons_succ]
                          refine wpAnyH_done (by kernel_rfl) ?_ _
                          refine NoPanic.normal ?_
                          try simp only [Act.put, List.getElem_toArray, List.getElem_cons_succ, List.getElem_cons_zero, List.setIfInBounds_toArray, List.set_cons_zero, List.set_cons_succ]
                          go_wp2_with fail
                          go_meet
                          exact ⟨wc.heap.size, hJ ++ [cb], st, rfl, hst, by simp [hJ], Nat.le_trans hhi (by simp), HBk, H5⟩
                case rest =>
                  as_aux_lemma =>
                    obtain ⟨p, loc, st, rfl, hst, hloc, hp, HBk, H4⟩ := hcut
                    clear H3 hlost
                    obtain ⟨R, hR⟩ : ∃ R, R = hearA n t { s0 with out := true } ⟨lost, st, loc, [], [], .slice none 0 0⟩ 0 := ⟨_, rfl⟩
                    have hE := end_step n t { s0 with out := true } ⟨lost, st, loc, [], [], .slice none 0 0⟩ (H4.out.ok _ (.head _)) hn9.1 hst
                    rw [← hR] at hE
                    have hokR : SOk R.1 := by rw [hR]; exact SOk.hear (H4.out.ok _ (.head _)) ..
                    have HE := Lib.hid hE
                    have hhear := Lib.hid (hear0PQ H4.out HW.out ⟨by omega, by omega⟩ ⟨hn9.1, by omega⟩ ⟨lost, st, loc, [], [], .slice none 0 0⟩ rfl (by show loc.length ≤ _; omega) (Nat.zero_le _) (Nat.zero_le _) rfl R hR)
                    have hnow := Lib.hid (nowPQ H4.out)
                    have hh0 : s0.hops ≤ 5 := (H4.out.ok _ (.head _)).hops
                    clear hE hR
                    obtain ⟨r1, tk⟩ := R
                    go_upto_region 28 with (first | (go_at_call 34; refine hnow.out.mono ?_; rintro e w' ⟨rfl, rfl⟩) | ((with_reducible refine atD 91 ?_); refine wpList_loadR rfl 48 (.tmp 14) rfl p (by rfl) 48 (acs ⟨lost, st, loc, [], [], .slice none 0 0⟩) _ HBk.out Tryz.underlying48 rfl info48 ?_) | (go_at_call 32; refine hhear.out.mono ?_; rintro e w5 ⟨⟨v5, rfl⟩, hq, ho⟩; have H5 := Lib.hid hq; have HBk5 := Lib.hid (blk_only HBk.out ho (.inr hp)); clear hq ho))
                    clear hhear hnow HBk H4
                    have hdu := Lib.hid (show Calls Tryz.prog 35 #[ptr g, .int .i64 0] w5 fun e w' => e = .returned (.int .i64 r1.due) ∧ w5 = w' from duePQ H5.out 0 (Nat.zero_lt_succ _))
                    have hfa := Lib.hid (show Calls Tryz.prog 37 #[ptr g, .int .i64 0] w5 fun e w' => e = .returned (.int .i64 r1.fails) ∧ w5 = w' from failsPQ H5.out 0 (Nat.zero_lt_succ _))
                    have k0 := (blk_cell HBk5.out 0).trans (show _ = some (.bool lost) from rfl)
                    have k1 := (blk_cell HBk5.out 1).trans (show _ = some (.int .i64 st) from rfl)
                    obtain ⟨HP, hHP⟩ : ∃ HP, HP = (!tk && decide (r1.due = t + 1) && decide (r1.fails < 7) && !lost && (decide (st = 301) || decide (st = 302))) := ⟨_, rfl⟩
                    have hops := HE.out.hops
                    unfold hopsN at hops
                    rw [← hHP] at hops
                    have HHP := Lib.hid hHP
                    have HOPS := Lib.hid hops
                    clear hHP hops
                    have v3 : IntKind.i64.wrap (t + 1) = t + 1 := IntWalk.i64_in _ (by omega)
                    have tf : decide (r1.fails < 7) = true := decide_eq_true (by have := hokR.fails; omega)
                    go_cut [19] (fun v wx => v = .bool HP ∧ wx = w5)
                    case first =>
                      as_aux_lemma =>
                        have q2 : (r1.due == t + 1) = decide (r1.due = t + 1) := by rw [Bool.eq_iff_iff, beq_iff_eq, decide_eq_true_eq]
                        have q5 : (st == 301) = decide (st = 301) := by rw [Bool.eq_iff_iff, beq_iff_eq, decide_eq_true_eq]
                        have q6 : (st == 302) = decide (st = 302) := by rw [Bool.eq_iff_iff, beq_iff_eq, decide_eq_true_eq]
                        have hC := HHP.out
                        rw [tf] at hC
                        clear HHP HOPS HE hst
                        generalize decide (r1.due = t + 1) = x2 at *
                        generalize decide (st = 301) = x5 at *
                        generalize decide (st = 302) = x6 at *
                        have HC := Lib.hid hC
                        clear hC
                        cases tk <;> cases x2 <;> cases lost <;> cases x5
                        all_goals go_wp2_with (first | (go_at_call 35; refine hdu.out.mono ?_; rintro e w' ⟨rfl, rfl⟩) | (go_at_call 37; refine hfa.out.mono ?_; rintro e w' ⟨rfl, rfl⟩))
                        all_goals go_meet
                        all_goals exact ⟨by rw [HC.out]; first | rfl | (cases x6 <;> rfl), rfl⟩
                    case rest =>
                      as_aux_lemma =>
                        obtain ⟨rfl, rfl⟩ := hcut
                        have v4 : IntKind.i64.wrap ((s0.hops : Int) + 1) = (s0.hops : Int) + 1 := IntWalk.i64_in _ (by omega)
                        go_upto_region 30 with fail
                        go_cut [135] (fun v wx => v = .bool (!HP) ∧ wx = wc)
                        case first =>
                          as_aux_lemma =>
                            obtain ⟨bn, hbn⟩ : ∃ bn, bn = decide (n = 1) := ⟨_, rfl⟩
                            have q1 : (n == 1) = bn := by rw [hbn, Bool.eq_iff_iff, beq_iff_eq, decide_eq_true_eq]
                            clear hbn
                            cases HP with
                            | true =>
                              have hr2 : tk = false := by have := HHP.out; simp at this; exact this.1.1.1.1
                              clear HHP HOPS HE
                              subst hr2
                              cases bn
                              all_goals go_wp2_with fail
                              all_goals go_meet
                              all_goals exact ⟨rfl, rfl⟩
                            | false =>
                              clear HHP HOPS
                              go_wp2_with fail
                              go_meet
                              exact ⟨rfl, rfl⟩
                        case rest =>
                          as_aux_lemma =>
                            obtain ⟨rfl, rfl⟩ := hcut
                            go_upto_if 135 with fail
                            go_cut [8] (fun v wx => v = .int .i64 ((r1.hops : Nat) : Int) ∧ wx = wc)
                            case first =>
                              as_aux_lemma =>
                                cases HP with
                                | true =>
                                  have e : r1.hops = s0.hops + 1 := by have := HOPS.out; rw [if_pos rfl] at this; exact this.symm
                                  have he := Lib.hid (show ((r1.hops : Nat) : Int) = (s0.hops : Int) + 1 by rw [e]; rfl)
                                  clear HHP HOPS e
                                  go_wp2_with fail
                                  go_meet
                                  exact ⟨by rw [he.out], rfl⟩
                                | false =>
                                  have e : r1.hops = 0 := by have := HOPS.out; rw [if_neg (by decide)] at this; exact this.symm
                                  have he := Lib.hid (show ((r1.hops : Nat) : Int) = 0 by rw [e]; rfl)
                                  clear HHP HOPS e
                                  go_wp2_with fail
                                  go_meet
                                  exact ⟨by rw [he.out], rfl⟩
                            case rest =>
                              as_aux_lemma =>
                                obtain ⟨rfl, rfl⟩ := hcut
                                clear HHP HOPS
                                have h5 := hokR.hops
                                have hlo : t < r1.due := HE.out.lo
                                have hhi : r1.due ≤ t + 64 * n := HE.out.hi
                                have u1 : decide ((r1.hops : Int) > 5) = false := decide_eq_false (by omega)
                                have u1' : decide (5 < r1.hops) = false := decide_eq_false (by omega)
                                have u2 : decide (r1.due ≤ t) = false := decide_eq_false (by omega)
                                have v5 : IntKind.i64.wrap (64 * n) = 64 * n := IntWalk.i64_in _ (by omega)
                                have v6 : IntKind.i64.wrap (t + 64 * n) = t + 64 * n := IntWalk.i64_in _ (by omega)
                                have u3 : decide (r1.due > t + 64 * n) = false := decide_eq_false (by omega)
                                go_upto_region 32 with fail
                                go_cut [164] (fun v wx => v = .bool false ∧ wx = wc)
                                case first =>
                                  as_aux_lemma =>
                                    have q1 : (st == 200) = decide (st = 200) := by rw [Bool.eq_iff_iff, beq_iff_eq, decide_eq_true_eq]
                                    have hC := HE.out.took
                                    clear HE hst
                                    clear v3 tf
                                    change tk = _ at hC
                                    subst hC
                                    generalize decide (st = 200) = x1 at *
                                    cases x1 <;> cases lost
                                    all_goals go_wp2_with (first | (go_at_call 35; refine hdu.out.mono ?_; rintro e w' ⟨rfl, rfl⟩))
                                    all_goals go_meet
                                    all_goals exact ⟨rfl, rfl⟩
                                case rest =>
                                  as_aux_lemma =>
                                    obtain ⟨rfl, rfl⟩ := hcut
                                    have ho := HE.out.out
                                    have hnn : 0 ≤ t ∧ t ≤ ((j + 1 : Nat) : Int) * 577 := by omega
                                    have hjj : j + 1 ≤ nk := by omega
                                    clear u1 u1' u2 u3 v5 v6 v4 v3 tf k0 k1
                                    go_wp2_with fail
                                    exact ⟨⟨j + 1, r1, s1', t, by go_num, hjj, rfl, ho, hnn, hhi, H5⟩, by simp [intOf]; omega⟩
        · have tj : decide ((j : Int) < (nk : Int)) = false := by rw [decide_eq_false_iff_not]; omega
          go_wp2_with fail
          go_meet
          exact ⟨rfl, Lib.hid H.out.bel⟩
  case rest =>
    as_aux_lemma =>
      obtain ⟨rfl, HB⟩ := hcut
      clear HRK H2 hnew HNK HM
      go_wp2_with (first | (go_at_call 32; refine (hear_nil 0 _ wc).mono ?_; rintro e w9 ⟨rfl, hb9⟩; have HB9 := Lib.hid (Below.andThen HB.out hb9); clear hb9) | (go_at_call 30; refine (tick_nil _).mono ?_; rintro e w' ⟨rfl, rfl⟩) | (go_at_call 34; refine (now_nil _).mono ?_; rintro e w' ⟨rfl, rfl⟩) | (go_at_call 35; refine (due_nil 0 _).mono ?_; rintro e w' ⟨rfl, rfl⟩) | (go_at_call 36; refine (link_nil 0 _).mono ?_; rintro e w' ⟨rfl, rfl⟩) | (go_at_call 37; refine (fails_nil 0 _).mono ?_; rintro e w' ⟨rfl, rfl⟩))
      go_ret
      exact ⟨rfl, HB9.out⟩
end Go.Proofs.YtcpkkaimingnlaaGreatDoor
