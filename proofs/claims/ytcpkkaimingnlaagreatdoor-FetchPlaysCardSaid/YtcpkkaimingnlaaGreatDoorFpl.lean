/-
  The law FetchPlays, walked.
-/
import Derived.Test.YtcpkkaimingnlaaGreatDoorFpc
import Derived.Test.YtcpkkaimingnlaaGreatDoorMK
set_option linter.unusedVariables false
set_option linter.unusedSimpArgs false
namespace Go.Proofs.YtcpkkaimingnlaaGreatDoor
open Go.RowKit

set_option maxHeartbeats 16000000 in
set_option maxRecDepth 100000 in
theorem plays_any (period : Int) (links : List Bs) (AL : Option Addr) (cl : Nat) (os : List Opn) (A : Option Addr) (ck : Nat) (w : World) (hT : Tabs w) (hcl : links.length ≤ cl ∧ cl ≤ 9223372036854775807) (hrl : Rd w w.heap.size 1 AL links.length (strs links))
    (hck : os.length ≤ ck ∧ ck ≤ 9223372036854775807) (hrk : ScRd w A os) (hsl : ∀ s ∈ links, s.length ≤ 9223372036854775807) : Calls Tryz.prog 10 #[.int .i64 period, .slice AL links.length cl, .slice A os.length ck] w fun e w' => e = .returned (.bool true) ∧ Below w.heap.size w w' := by
  have HW := Lib.hid hT
  have hfi := Lib.hid (first14_any w hT)
  have HRK := Lib.hid hrk
  have HRL := Lib.hid hrl
  have HSL := Lib.hid hsl
  clear hT hrk hrl hsl
  obtain ⟨nk, hnk⟩ : ∃ nk, nk = os.length := ⟨_, rfl⟩
  rw [← hnk] at hck ⊢
  have HNK := Lib.hid hnk
  obtain ⟨n, hn⟩ : ∃ n, n = links.length := ⟨_, rfl⟩
  rw [← hn] at hcl HRL ⊢
  have HN := Lib.hid hn
  clear hnk hn
  go_enter Tryz.func10, Tryz.ntmps10
  go_upto_region 3 with (go_at_call 25; refine hfi.out.mono ?_; rintro e w1 ⟨rfl, hb1⟩; have HB1 := Lib.hid hb1; clear hb1)
  clear hfi
  by_cases h40 : 40 < n
  · have t40 : decide ((n : Int) > 40) = true := decide_eq_true (by omega)
    have t40' : decide (40 < n) = true := decide_eq_true h40
    go_wp2_with fail
    go_ret
    exact ⟨rfl, HB1.out⟩
  · have t40 : decide ((n : Int) > 40) = false := decide_eq_false (by omega)
    have t40' : decide (40 < n) = false := decide_eq_false h40
    go_upto_block 0 with fail
    clear t40 t40'
    go_cut [30] (fun v wx => v = .int .i64 (n : Int) ∧ Hid (∀ s ∈ links, s.length ≤ 3000) ∧ Hid (Below w.heap.size w wx))
    case first =>
      as_aux_lemma =>
        go_upto_block 1 with fail
        go_loopw [34] (fun i wr => ∃ j : Nat, i = .int .i64 (j : Int) ∧ j ≤ n ∧ Hid (∀ m, m < j → (links.getD m []).length ≤ 3000) ∧ Hid (Below w.heap.size w wr)) (fun i _ => n - (intOf i).toNat)
        case atStart => exact ⟨0, rfl, Nat.zero_le _, Lib.hid (fun m hm => by omega), HB1⟩
        case round =>
          obtain ⟨j, rfl, hj, HG, HB⟩ := hrel
          clear HB1
          by_cases hjn : j < n
          · have tj : decide ((j : Int) < (n : Int)) = true := by rw [decide_eq_true_eq]; omega
            obtain ⟨b, off, hA, _, hc⟩ := (HRL.out.keep HB.out).at_ (by omega)
            subst hA
            have hcj := (hc j (by omega)).trans (show (strs links)[j]? = some (.string (bs (links.getD j []))) by have := HN.out; unfold strs; simp [show j < links.length by omega])
            clear hc
            obtain ⟨s, hs⟩ : ∃ s, s = links.getD j [] := ⟨_, rfl⟩
            rw [← hs] at hcj
            have HS := Lib.hid hs
            have hz : (bs s).size = s.length := bs_size s
            obtain ⟨ns, hns⟩ : ∃ ns, ns = s.length := ⟨_, rfl⟩
            rw [← hns] at hz
            have HNS := Lib.hid hns
            clear hs hns
            by_cases h3 : 3000 < ns
            · have u1 : decide ((ns : Int) > 3000) = true := decide_eq_true (by omega)
              have u2 : decide (3000 < ns) = true := decide_eq_true h3
              go_wp2_with fail
              go_ret
              exact ⟨rfl, HB.out⟩
            · have u1 : decide ((ns : Int) > 3000) = false := decide_eq_false (by omega)
              have u2 : decide (3000 < ns) = false := decide_eq_false h3
              have HG2 : Hid (∀ m, m < j + 1 → (links.getD m []).length ≤ 3000) := Lib.hid (fun m hm => by
                by_cases h : m = j
                · rw [h, ← HS.out, ← HNS.out]; omega
                · exact HG.out m (by omega))
              clear HG HNS HS
              go_wp2_with fail
              exact ⟨⟨j + 1, by go_num, by omega, HG2, HB⟩, by simp [intOf]; omega⟩
          · have tj : decide ((j : Int) < (n : Int)) = false := by rw [decide_eq_false_iff_not]; omega
            have HA : Hid (∀ s ∈ links, s.length ≤ 3000) := Lib.hid (fun s hs => by
              obtain ⟨m, hm, rfl⟩ := List.getElem_of_mem hs
              have h1 := HG.out m (by have := HN.out; omega)
              rw [show links.getD m [] = links[m] by simp [hm]] at h1
              exact h1)
            clear HG
            go_wp2_with fail
            go_meet
            exact ⟨rfl, HA, HB⟩
    case rest =>
      as_aux_lemma =>
        obtain ⟨rfl, HL3, HB2⟩ := hcut
        clear HB1
        have hempty := Lib.hid (SOwn.empty wc w.heap.size HB2.out.size)
        have hone : ∀ u ∈ strs links, u.oneCell' = true := strs_one links
        have hrl2 := Lib.hid ((HRL.out.keep HB2.out).keep (Below.mono (below_one wc (.cells #[] 9)) HB2.out.size))
        have hsz : w.heap.size ≤ (wc.alloc (.cells #[] 9)).heap.size := by have := HB2.out.size; simp; omega
        go_upto_region 12 with (at_builtin; refine wpList_appendRd rfl (.tmp 42) (.tmp 43) 38 rfl w.heap.size 9 (.string ⟨#[]⟩) 1 16 Tryz.underlying38 infoS rfl (by decide) _ 0 [] (by rfl) hempty.out w.heap.size AL n cl (strs links) (by rfl) hrl2.out hone (by omega) (by omega) hsz ?_; intro AO cO w3 ho3 hb3 _; have HO3 := Lib.hid ho3; have HB3 := Lib.hid ((HB2.out.alloc HB2.out.size (.cells #[] 9)).trans hb3); clear ho3 hb3)
        have ho4 : w3.ownsRow w.heap.size 9 1 (.slice AO n cO) n (strs links) := by have := HO3.out; rw [Nat.zero_add, List.nil_append] at this; exact this
        obtain ⟨A4, c4, e4, hc4, hm4, _⟩ := SOwn.form (l := links) (by unfold SOwn; rw [← HN.out]; exact ho4)
        have hcO : n ≤ cO ∧ cO ≤ 9223372036854775807 := by
          injection e4 with _ _ e4
          rw [HN.out, e4]
          exact ⟨hc4, hm4⟩
        clear e4 hc4 hm4
        have hrd3 : Rd w3 w3.heap.size 1 AO n (strs links) := Rd.of_own ho4
        have HO4 := Lib.hid ho4
        have hnew := new_any period links AO cO w3 (HW.out.below HB3.out) (by rw [← HN.out]; exact hcO) (by rw [← HN.out]; exact hrd3) HSL.out
        rw [← HN.out] at hnew
        have hnew2 := Lib.hid hnew
        have hrig := Lib.hid (fun W (h : Below w.heap.size w W) => rright_any period links AL cl W (by rw [← HN.out]; exact hcl) (by rw [← HN.out]; exact (HRL.out.keep h).more h.size) HSL.out)
        rw [← HN.out] at hrig
        clear hempty hone hrl2 hsz HO3 ho4 hrd3 hnew
        try simp only [Nat.zero_add]
        cases hk : okNew period links with
        | false =>
          rw [hk] at hrig
          have HK := Lib.hid hk
          clear hk
          go_wp2_with (first | (go_at_call 26; refine hnew2.out.mono ?_; rintro e w4 ⟨h1, _, hb4⟩; obtain rfl := h1 HK.out; have HB4 := Lib.hid (Below.andThen HB3.out hb4); clear h1 hb4) | (go_at_call 27; refine (hrig.out _ HB4.out).mono ?_; rintro e w5 ⟨rfl, hb5⟩; have HB5 := Lib.hid (Below.andThen HB4.out hb5); clear hb5))
          go_ret
          exact ⟨rfl, HB5.out⟩
        | true =>
          rw [hk] at hrig
          have hall : ∀ s ∈ links, (parseP s).isSome = true := by
            have h := hk
            unfold okNew at h
            simp only [Bool.and_eq_true, decide_eq_true_eq] at h
            exact List.all_eq_true.1 h.2
          have hper : 1 ≤ period ∧ period ≤ 1048576 := by
            have h := hk
            unfold okNew at h
            simp only [Bool.and_eq_true, decide_eq_true_eq] at h
            exact ⟨h.1.1.1, h.1.1.2⟩
          have hperr := hper
          clear hper
          have HOKN := Lib.hid (show ∀ s ∈ links.map newS, SOk s from fun s hs => by
            obtain ⟨x, hx, rfl⟩ := List.mem_map.1 hs
            exact SOk.new (hall x hx))
          have HK := Lib.hid hk
          clear hk hall
          go_upto_region 15 with (first | (go_at_call 26; refine hnew2.out.mono ?_; rintro e w4 ⟨_, h1, hb4⟩; obtain ⟨g1, A1, c1, gs1, rfl, hp⟩ := h1 HK.out; have H4 := Lib.hid (show PQ w w4 w3.heap.size w4.heap.size g1 A1 c1 gs1 period 0 (links.map newS) from ⟨hp, Below.andThen HB3.out hb4, HB3.out.size, HOKN.out⟩); have HBO := Lib.hid (show n = 0 ∨ ∃ gO cs, AO = some ⟨gO, 0, none⟩ ∧ gO < w3.heap.size ∧ w.heap.size ≤ gO ∧ Blk w4 gO 9 cs ∧ n ≤ cs.length from (Nat.eq_zero_or_pos n).imp_right (fun h0 => by (obtain ⟨gO, e, h1, h2⟩ := own_some HO4.out h0; subst e; obtain ⟨cs, hb, hl, _⟩ := own_blk HO4.out; exact ⟨gO, cs, rfl, h2, h1, blk_below hb hb4 h2, by omega⟩))); clear h1 hb4 hp) | (go_at_call 27; refine (hrig.out _ H4.out.bel).mono ?_; rintro e w5 ⟨rfl, hb5⟩; have H5 := Lib.hid (H4.out.call hb5); have HBO5 := Lib.hid (show n = 0 ∨ ∃ gO cs, AO = some ⟨gO, 0, none⟩ ∧ gO < w3.heap.size ∧ w.heap.size ≤ gO ∧ Blk w5 gO 9 cs ∧ n ≤ cs.length from HBO.out.imp_right (fun ⟨gO, cs, e, h1, h2, h3, h4⟩ => ⟨gO, cs, e, h1, h2, blk_below h3 hb5 (blk_lt h3), h4⟩)); clear hb5))
          clear hnew2 hrig H4 HBO HO4 HB2
          obtain ⟨lo1, hlo1⟩ : ∃ lo1, lo1 = w3.heap.size := ⟨_, rfl⟩
          obtain ⟨hi1, hhi1⟩ : ∃ hi1, hi1 = w4.heap.size := ⟨_, rfl⟩
          rw [← hlo1, ← hhi1] at H5
          rw [← hlo1] at HBO5
          have hwl : w.heap.size ≤ lo1 := by rw [hlo1]; exact HB3.out.size
          clear hlo1 hhi1 HB3
          go_upto_block 2 with fail
          go_cut [30] (fun v wx => v = .int .i64 (n : Int) ∧ Hid (PQ w wx lo1 hi1 g1 A1 c1 gs1 period 0 (links.map newS)))
          case first =>
            as_aux_lemma =>
              go_upto_block 3 with fail
              go_loopw [63] (fun i wr => ∃ j : Nat, i = .int .i64 (j : Int) ∧ j ≤ n ∧ Hid (PQ w wr lo1 hi1 g1 A1 c1 gs1 period 0 (links.map newS)) ∧ Hid (n = 0 ∨ ∃ gO cs, AO = some ⟨gO, 0, none⟩ ∧ gO < lo1 ∧ w.heap.size ≤ gO ∧ Blk wr gO 9 cs ∧ n ≤ cs.length)) (fun i _ => n - (intOf i).toNat)
              case atStart => exact ⟨0, rfl, Nat.zero_le _, H5, HBO5⟩
              case round =>
                obtain ⟨j, rfl, hj, H, HB⟩ := hrel
                clear H5 HBO5
                by_cases hjn : j < n
                · have tj : decide ((j : Int) < (n : Int)) = true := by rw [decide_eq_true_eq]; omega
                  obtain ⟨gO, cs, hA, hg1, hg2, hb, hl⟩ := HB.out.resolve_left (by omega)
                  subst hA
                  have HBk := Lib.hid hb
                  have hjl : j < cs.length := by omega
                  clear hb HB
                  go_wp2_with ((with_reducible refine atC 68 ?_); refine wpList_storeC rfl 9 (.tmp 68) (.const (.string ⟨#[]⟩)) rfl gO j (.string ⟨#[]⟩) (by rfl) (by rfl) rfl info9 9 _ HBk.out hjl ?_; intro X1 hb1 ht1; have H7 := Lib.hid (H.out.other (ht1.below _ _ hg2 H.out.bel) (Only.of_turned ht1 (Nat.le_refl _) (Nat.lt_succ_self _)) (.inr hg1)); have HB7 := Lib.hid (show n = 0 ∨ ∃ gO' cs, (some ⟨gO, 0, none⟩ : Option Addr) = some ⟨gO', 0, none⟩ ∧ gO' < lo1 ∧ w.heap.size ≤ gO' ∧ Blk X1 gO' 9 cs ∧ n ≤ cs.length from .inr ⟨gO, _, rfl, hg1, hg2, hb1, by rw [List.length_set]; exact hl⟩); clear hb1 ht1)
                  exact ⟨⟨j + 1, by go_num, by omega, H7, HB7⟩, by simp [intOf]; omega⟩
                · have tj : decide ((j : Int) < (n : Int)) = false := by rw [decide_eq_false_iff_not]; omega
                  go_wp2_with fail
                  go_meet
                  exact ⟨rfl, H⟩
          case rest =>
            as_aux_lemma =>
              obtain ⟨rfl, H6⟩ := hcut
              clear H5 HBO5
              have hrn := Lib.hid (rnew_any period links AL cl wc (by rw [← HN.out]; exact hcl) (by rw [← HN.out]; omega) (by rw [← HN.out]; exact (HRL.out.keep H6.out.bel).more H6.out.bel.size))
              rw [← HN.out] at hrn
              go_upto_region 21 with (go_at_call 28; refine hrn.out.mono ?_; rintro e w7 ⟨⟨g2, A2, c2, rfl, hr⟩, hb7⟩; have H7 := Lib.hid (show PQ w w7 lo1 hi1 g1 A1 c1 gs1 period 0 (links.map newS) ∧ RNW wc w7 g2 A2 c2 n period (links.map newR) from ⟨H6.out.call hb7, hr⟩); clear hb7 hr)
              obtain ⟨lo2, hlo2⟩ : ∃ lo2, lo2 = wc.heap.size := ⟨_, rfl⟩
              obtain ⟨hi2, hhi2⟩ : ∃ hi2, hi2 = w7.heap.size := ⟨_, rfl⟩
              have hts : (links.map newR).map toS = links.map newS := by rw [List.map_map]; rfl
              have H8 := Lib.hid (show DQ w w7 lo1 hi1 g1 A1 c1 gs1 0 0 lo2 hi2 g2 A2 c2 period 0 ((links.map newR).map toS) 0 (links.map newR) from by
                rw [hts, hlo2, hhi2]
                exact ⟨H7.out.1, H7.out.2.pol (fun b => w7.heap.size ≤ b ∧ (b < 0 ∨ 0 ≤ b)) (fun b hb => hb.1), H6.out.pol.hB⟩)
              have hln : (links.map newR).length = n := by rw [List.length_map, HN.out]
              clear hlo2 hhi2 hts H7 H6 hrn
              generalize links.map newR = rs0 at *
              go_upto_block 4 with fail
              go_cut [30] (fun v wx => v = .int .i64 (n : Int) ∧ Hid (Below w.heap.size w wx))
              case first =>
                as_aux_lemma =>
                  clear HSL HL3 HOKN HK HRL
                  go_upto_block 5 with fail
                  go_loopw [75] (fun i wr => ∃ (j : Nat) (rs : List RSrc) (now : Int) (k kk : Nat), i = .int .i64 (j : Int) ∧ j ≤ nk ∧ (0 ≤ now ∧ now ≤ j * 60) ∧ rs.length = n ∧ Hid (DQ w wr lo1 hi1 g1 A1 c1 gs1 k kk lo2 hi2 g2 A2 c2 period now (rs.map toS) now rs)) (fun i _ => nk - (intOf i).toNat)
                  case atStart => exact ⟨0, rs0, 0, 0, 0, rfl, Nat.zero_le _, ⟨by omega, by omega⟩, hln, H8⟩
                  case round =>
                    obtain ⟨j, rs, now, k, kk, rfl, hj, hnow, hrl, H⟩ := hrel
                    clear H8 hln
                    by_cases hjn : j < nk
                    · have tj : decide ((j : Int) < (nk : Int)) = true := by rw [decide_eq_true_eq]; omega
                      obtain ⟨o, ho⟩ : ∃ o, os[j]? = some o := ⟨os[j]'(by have := HNK.out; omega), List.getElem?_eq_getElem _⟩
                      obtain ⟨⟨b, off, hA, hr⟩, hbd⟩ := HRK.out.at_ H.out.a.bel ho
                      subst hA
                      have HBD := Lib.hid hbd
                      obtain ⟨Ab, cb, hbe, hlc, hcm, _⟩ := hbd
                      obtain ⟨on, so, ⟨lost, st, loc, et, mo, body⟩, lb⟩ := o
                      simp only at hbe hlc HBD
                      subst hbe
                      have HR := Lib.hid hr
                      clear ho hr
                      go_upto_region 24 with (first | ((with_reducible refine atD 79 ?_); refine wpList_loadMO (by rfl) (.tmp 78) rfl b (off + j * 8) (by rfl) ⟨on, so, ⟨lost, st, loc, et, mo, .slice Ab lb.length cb⟩, lb⟩ HR.out ?_) | ((with_reducible refine atS 15 79 ?_); refine wpList_storeR rfl 50 (.tmp 15) (.tmp 79) rfl wr.heap.size (opc ⟨on, so, ⟨lost, st, loc, et, mo, .slice Ab lb.length cb⟩, lb⟩).toArray (by rfl) (by rfl) 50 _ (blk_new wr 50 _) info50 rfl (by rw [← Array.all_toList]; rfl) ?_; intro X1 hb1 ht1; have HBk := Lib.hid (show Blk X1 wr.heap.size 50 (opc ⟨on, so, ⟨lost, st, loc, et, mo, .slice Ab lb.length cb⟩, lb⟩) from hb1); have H4 := Lib.hid (H.out.call (ht1.below wr.heap.size wr (Nat.le_refl _) (below_one wr _))); clear hb1 ht1))
                      try simp only [Act.put, List.getElem_toArray, List.getElem_cons_succ, List.getElem_cons_zero, List.setIfInBounds_toArray, List.set_cons_zero, List.set_cons_succ]
                      have hp : hi2 ≤ wr.heap.size := H.out.lt.2.2.1
                      clear HR H
                      generalize wr.heap.size = p at *
                      try clear wr
                      have k4 := (blk_cell HBk.out 4).trans (show _ = some (.string (bs loc)) from rfl)
                      have k5 := (blk_cell HBk.out 5).trans (show _ = some (.string (bs et)) from rfl)
                      have k6 := (blk_cell HBk.out 6).trans (show _ = some (.string (bs mo)) from rfl)
                      have k7 := (blk_cell HBk.out 7).trans (show _ = some (.slice Ab lb.length cb) from rfl)
                      obtain ⟨B, hB⟩ : ∃ B, B = (decide (60 ≤ j) || (decide (3000 < max (max loc.length et.length) mo.length) || decide (70000 < lb.length))) := ⟨_, rfl⟩
                      have HBq := Lib.hid hB
                      clear hB
                      go_cut [104] (fun v wx => v = .bool B ∧ wx = X1)
                      case first =>
                        as_aux_lemma =>
                          obtain ⟨b1, hb1⟩ : ∃ b1, b1 = decide (60 ≤ j) := ⟨_, rfl⟩
                          have q1 : decide ((j : Int) ≥ 60) = b1 := by rw [hb1, Bool.eq_iff_iff, decide_eq_true_eq, decide_eq_true_eq]; omega
                          have q2 : decide (60 ≤ j) = b1 := hb1.symm
                          have hB := HBq.out
                          rw [← hb1] at hB
                          have HB2 := Lib.hid hB
                          clear hb1 hB HBq
                          have hl1 : (bs loc).size = loc.length := bs_size loc
                          have hl2 : (bs et).size = et.length := bs_size et
                          have hl3 : (bs mo).size = mo.length := bs_size mo
                          generalize loc.length = n1 at *
                          generalize et.length = n2 at *
                          generalize mo.length = n3 at *
                          cases b1 with
                          | true =>
                            have e : B = true := HB2.out
                            clear HB2
                            go_wp2_with fail
                            go_meet
                            exact ⟨by rw [e], rfl⟩
                          | false =>
                            generalize lb.length = n4 at *
                            go_wp2_with fail
                            all_goals go_meet
                            all_goals refine ⟨?_, rfl⟩
                            all_goals rw [HB2.out, Bool.false_or]
                            all_goals congr 1
                            all_goals rw [Bool.eq_iff_iff]
                            all_goals simp only [Bool.or_eq_true, decide_eq_true_eq, true_iff, Bool.false_eq_true, false_iff]
                            all_goals omega
                      case rest =>
                        as_aux_lemma =>
                          obtain ⟨rfl, rfl⟩ := hcut
                          cases B with
                          | true =>
                            clear HBq
                            go_wp2_with fail
                            go_meet
                            exact ⟨rfl, Lib.hid H4.out.a.bel⟩
                          | false =>
                            have hsz : j < 60 ∧ loc.length ≤ 3000 ∧ et.length ≤ 3000 ∧ mo.length ≤ 3000 ∧ lb.length ≤ 70000 := by
                              have := HBq.out.symm
                              simp only [Bool.or_eq_false_iff, decide_eq_false_iff_not] at this
                              omega
                            clear HBq
                            obtain ⟨M, hM, hM60⟩ : ∃ M : Nat, wrap64 (1 + wrap64 ((IntKind.u64.wrap on).tmod 60)) = (M : Int) ∧ M ≤ 60 := by
                              rw [unit_val _ _ ⟨by decide, by decide⟩]
                              have := unit_mod on 60 (by decide)
                              exact ⟨(1 + (IntKind.u64.wrap on).tmod 60).toNat, by omega, by omega⟩
                            have k0 := (blk_cell HBk.out 0).trans (show _ = some (.int .i64 on) from rfl)
                            clear k4 k5 k6 k7
                            have HM := Lib.hid hM
                            clear hM
                            go_upto_block 6 with fail
                            rw [HM.out]
                            clear HM
                            generalize (IntKind.u64.wrap on).tmod 60 = x108
                            clear k0
                            go_cut [15] (fun v wx => v = .pointer (some ⟨p, 0, none⟩) ∧ ∃ (rs' : List RSrc), rs'.length = n ∧ Hid (DQ w wx lo1 hi1 g1 A1 c1 gs1 k kk lo2 hi2 g2 A2 c2 period (now + M) (rs'.map toS) (now + M) rs') ∧ Hid (Blk wx p 50 (opc ⟨on, so, ⟨lost, st, loc, et, mo, .slice Ab lb.length cb⟩, lb⟩)))
                            case first =>
                              as_aux_lemma =>
                                go_upto_block 7 with fail
                                go_loopw [111] (fun i wx => ∃ (m : Nat) (rs' : List RSrc), i = .int .i64 (m : Int) ∧ m ≤ M ∧ rs'.length = n ∧ Hid (DQ w wx lo1 hi1 g1 A1 c1 gs1 k kk lo2 hi2 g2 A2 c2 period (now + m) (rs'.map toS) (now + m) rs') ∧ Hid (Blk wx p 50 (opc ⟨on, so, ⟨lost, st, loc, et, mo, .slice Ab lb.length cb⟩, lb⟩))) (fun i _ => M - (intOf i).toNat)
                                case atStart => exact ⟨0, rs, rfl, Nat.zero_le _, hrl, by simpa using H4, HBk⟩
                                case round =>
                                  obtain ⟨m, rs', rfl, hm, hrl2, H5, HBk5⟩ := hrel
                                  clear H4 HBk
                                  by_cases hmM : m < M
                                  · have tm : decide ((m : Int) < (M : Int)) = true := by rw [decide_eq_true_eq]; omega
                                    have hta := Lib.hid (tickDA H5.out ⟨by omega, by omega⟩ (by rw [List.length_map]; omega))
                                    have hll := asks_len (now + m + 1) (rs'.map toS) 0
                                    rw [List.length_map] at hll
                                    go_wp2_with (first | (go_at_call 29; refine hsm.out.mono ?_; rintro e w9 ⟨rfl, hb⟩; have H9 := Lib.hid (H8.out.call hb); have HBk9 := Lib.hid (blk_below HBk8.out hb (blk_lt HBk8.out)); clear hb) | (go_at_call 31; refine htb.out.mono ?_; rintro e w8 ⟨⟨v8, rfl, hv⟩, hq, ho⟩; have hsm := Lib.hid (same_yes (HV6.out.only ho hhi) hv rfl (Nat.le_trans hll (by omega))); have H8 := Lib.hid hq; have HBk8 := Lib.hid (blk_only HBk6.out ho (.inr hp)); clear hv hq ho) | (go_at_call 30; refine hta.out.mono ?_; rintro e w6 ⟨⟨v6, rfl, hv⟩, hq, ho⟩; have HV6 := Lib.hid hv; have H6 := Lib.hid hq; have HBk6 := Lib.hid (blk_only HBk5.out ho (.inr hp)); have hhi := H5.out.lt.2.2.1; have htb := Lib.hid (tickDB hq ⟨by omega, by omega⟩ (by omega)); clear hv hq ho))
                                    have e : now + ((m + 1 : Nat) : Int) = now + m + 1 := by omega
                                    exact ⟨⟨m + 1, rs'.map (rtickP (now + m + 1)), by go_num, by omega, by rw [List.length_map]; exact hrl2, by rw [e, toS_ticks]; exact H9, HBk9⟩, by simp [intOf]; omega⟩
                                  · have tm : decide ((m : Int) < (M : Int)) = false := by rw [decide_eq_false_iff_not]; omega
                                    have hmM2 : m = M := by omega
                                    rw [hmM2] at H5
                                    go_wp2_with fail
                                    go_meet
                                    exact ⟨rfl, rs', hrl2, H5, HBk5⟩
                            case rest =>
                              as_aux_lemma =>
                                obtain ⟨rfl, rs1, hrl1, H5, HBk5⟩ := hcut
                                clear H4 HBk
                                obtain ⟨t, ht⟩ : ∃ t, t = now + M := ⟨_, rfl⟩
                                rw [← ht] at H5
                                have ht2 : 0 ≤ t ∧ t ≤ ((j + 1 : Nat) : Int) * 60 := by omega
                                have ht3 : t ≤ 1000000 := by omega
                                clear ht hnow
                                go_upto_region 31 with (first | ((with_reducible refine atD 121 ?_); refine wpList_loadMW (by rfl) (.tmp 120) rfl p (by rfl) on so ⟨lost, st, loc, et, mo, .slice Ab lb.length cb⟩ lb HBk5.out ?_) | ((with_reducible refine atS 16 121 ?_); refine wpList_storeR rfl 48 (.tmp 16) (.tmp 121) rfl wc.heap.size (acs ⟨lost, st, loc, et, mo, .slice Ab lb.length cb⟩).toArray (by rfl) (by rfl) 48 _ (blk_new wc 48 _) info48 rfl (by rw [← Array.all_toList]; rfl) ?_; intro X2 hb1 ht1; have HQ := Lib.hid (show Blk X2 wc.heap.size 48 (acs ⟨lost, st, loc, et, mo, .slice Ab lb.length cb⟩) from hb1); have hbw := ht1.below wc.heap.size wc (Nat.le_refl _) (below_one wc _); have HBc := Lib.hid hbw; have H6 := Lib.hid (H5.out.call hbw); have HBk6 := Lib.hid (blk_below HBk5.out hbw (blk_lt HBk5.out)); clear hb1 ht1 hbw))
                                try simp only [Act.put, List.getElem_toArray, List.getElem_cons_succ, List.getElem_cons_zero, List.setIfInBounds_toArray, List.set_cons_zero, List.set_cons_succ]
                                have hq : p < wc.heap.size := blk_lt HBk5.out
                                have hqh : hi2 ≤ wc.heap.size := H5.out.lt.2.2.1
                                have HD5 := Lib.hid (fun kk' => H5.out.apart wc.heap.size kk' (Nat.le_refl _))
                                obtain ⟨q, hqe⟩ : ∃ q, q = wc.heap.size := ⟨_, rfl⟩
                                rw [← hqe] at HQ hq hqh HD5 ⊢
                                clear H5 HBk5 hqe
                                obtain ⟨Ab', cb', hbe, hlc', hcm', hrdb⟩ := HBD.out
                                have hbe : Value.slice Ab lb.length cb = Value.slice Ab' lb.length cb' := hbe
                                injection hbe with hbe1 _ hbe2
                                subst hbe1 hbe2
                                have k7 := cell_on2 ((blk_cell HBk6.out 7).trans (show _ = some (.slice Ab lb.length cb) from rfl)) (.cells #[] 5)
                                have hqX : q < X2.heap.size := blk_lt HQ.out
                                have hrd2 := Lib.hid ((hrdb.keep H6.out.a.bel).keep (Below.mono (below_one X2 (.cells #[] 5)) H6.out.a.bel.size))
                                have hbone := bytes_one lb
                                have hem := Lib.hid (own_empty5 X2 X2.heap.size (Nat.le_refl _))
                                have hsz5 : X2.heap.size ≤ (X2.alloc (.cells #[] 5)).heap.size := by simp
                                have hsz6 : X2.heap.size < (X2.alloc (.cells #[] 5)).heap.size := by simp
                                clear hrdb
                                go_upto_region 32 with (first | (at_builtin; refine wpList_appendRd rfl (.tmp 122) (.tmp 125) 46 rfl X2.heap.size 5 (.int .u8 0) 1 1 Tryz.underlying46 info5b rfl (by decide) _ 0 [] (by rfl) hem.out w.heap.size Ab lb.length cb (Lib.byteCells lb) (by rfl) hrd2.out hbone (by omega) (by omega) hsz5 ?_; intro AB cB w3 ho3 hb3 _; rw [Nat.zero_add, List.nil_append] at ho3; have HO3 := Lib.hid ho3; have HB3 := Lib.hid ((below_one X2 (.cells #[] 5)).trans hb3); have HQ3 := Lib.hid (blk_below HQ.out HB3.out hqX); have hsz7 := Nat.lt_of_lt_of_le hsz6 hb3.size; clear ho3 hb3) | ((with_reducible refine atS 127 126 ?_); refine wpList_storeC rfl 46 (.tmp 127) (.tmp 126) rfl q 5 (.slice AB lb.length cB) (by rfl) (by rfl) rfl info46 48 _ HQ3.out (by exact Nat.le_of_ble_eq_true rfl) ?_; intro X4 hb1 ht1; have HQ4 := Lib.hid (show Blk X4 q 48 (acs ⟨lost, st, loc, et, mo, .slice AB lb.length cB⟩) from hb1); have HT4 := Lib.hid ht1; clear hb1 ht1))
                                try simp only [Act.put, List.getElem_toArray, List.getElem_cons_succ, List.getElem_cons_zero, List.setIfInBounds_toArray, List.set_cons_zero, List.set_cons_succ]
                                have ho4 := own_turned HO3.out HT4.out (fun x hx e => by have := own_size HO3.out x hx; omega)
                                have hs4 : X2.heap.size < X4.heap.size := by rw [HT4.out.size]; exact hsz7
                                obtain ⟨kB, hk1, hk2, hk3⟩ := copy_block ho4 hs4
                                have hk2' : kB < X4.heap.size := hk2
                                have HOB := Lib.hid ho4
                                have HK3 := Lib.hid hk3
                                have H7 := Lib.hid ((((HD5.out X4.heap.size).call HBc.out).call HB3.out).far HT4.out ⟨Nat.le_refl _, by omega⟩ hqh)
                                have HBk7 := Lib.hid (HT4.out.blk (blk_below HBk6.out HB3.out (blk_lt HBk6.out)) (Nat.ne_of_lt hq))
                                have k1 := (blk_cell HBk7.out 1).trans (show _ = some (.int .i64 so) from rfl)
                                clear ho4 hk3 HO3 HT4 HQ3 HQ HBk6 H6 HB3 HD5 HBc hrd2 hem hbone hsz5 hsz6 hsz7 k7
                                have hokr := Lib.hid (show ∀ r ∈ rs1, SOk (toS r) from fun r hr => H7.out.a.ok _ (List.mem_map.2 ⟨r, hr, rfl⟩))
                                have hper := H7.out.a.ok
                                clear hper
                                obtain ⟨R, hR⟩ : ∃ R, R = hearL period t (rs1.map toS) so ⟨lost, st, loc, et, mo, .slice Ab lb.length cb⟩ lb.length := ⟨_, rfl⟩
                                have hhA := hearDA H7.out HW.out ⟨ht2.1, by omega⟩ hperr so ⟨lost, st, loc, et, mo, .slice AB lb.length cB⟩ lb AB cB rfl (fun W' hW' => (Rd.of_own (own_only HOB.out hW' (by have := H7.out.lt; omega)))) (by omega) (by show loc.length ≤ _; omega) (by show et.length ≤ _; omega) (by show mo.length ≤ _; omega)
                                rw [hearL_body period t (rs1.map toS) so lost st loc et mo _ (.slice Ab lb.length cb) lb.length, ← hR] at hhA
                                have HHA := Lib.hid hhA
                                have HRR := Lib.hid hR
                                clear hhA hR
                                obtain ⟨ssR, tk, er⟩ := R
                                go_upto_region 33 with (first | ((with_reducible refine atD 132 ?_); refine wpList_loadR rfl 48 (.tmp 16) rfl q (by rfl) 48 (acs ⟨lost, st, loc, et, mo, .slice AB lb.length cB⟩) _ HQ4.out Tryz.underlying48 rfl info48 ?_) | (go_at_call 32; refine HHA.out.mono ?_; rintro e w5 ⟨⟨v5, rfl, hv1, hv2⟩, hd, ho⟩; have HV1 := Lib.hid hv1; have HV2 := Lib.hid hv2; have H8 := Lib.hid hd; have HBk8 := Lib.hid (blk_only HBk7.out ho (.inr hp)); have HQ8 := Lib.hid (blk_only HQ4.out ho (.inr hqh)); have HOB8 := Lib.hid (own_only HOB.out ho (by have := H7.out.lt; omega)); have HO8 := Lib.hid ho; clear hv1 hv2 hd ho))
                                clear HHA H7 HBk7 HQ4 HOB k1
                                have k1 := (blk_cell HBk8.out 1).trans (show _ = some (.int .i64 so) from rfl)
                                have hhB := hearDB H8.out HO8.out.size hokr.out ⟨ht2.1, by omega⟩ hperr so ⟨lost, st, loc, et, mo, .slice Ab lb.length cb⟩ lb Ab cb rfl (by omega) (by show loc.length ≤ _; omega) (by show et.length ≤ _; omega) (by show mo.length ≤ _; omega)
                                rw [← HRR.out] at hhB
                                have HHB := Lib.hid hhB
                                clear hhB
                                go_upto_region 34 with (first | ((with_reducible refine atD 142 ?_); refine wpList_loadMW (by rfl) (.tmp 141) rfl p (by rfl) on so ⟨lost, st, loc, et, mo, .slice Ab lb.length cb⟩ lb HBk8.out ?_) | (go_at_call 33; refine HHB.out.mono ?_; rintro e w6 ⟨rs2, rfl, hm2, hd, ho⟩; have HM2 := Lib.hid hm2; have H9 := Lib.hid hd; have HBk9 := Lib.hid (blk_only HBk8.out ho (.inr hp)); have HQ9 := Lib.hid (blk_only HQ8.out ho (.inr hqh)); have HOB9 := Lib.hid (own_only HOB8.out ho (by have := H8.out.lt; omega)); have HV19 := Lib.hid (fun h => own_only (HV1.out h) ho (by have := H8.out.lt; have := HO8.out.size; omega)); clear hm2 hd ho))
                                clear HHB H8 HBk8 HQ8 HOB8 HV1 k1
                                have hm3 : rs2.map toS = ssR := HM2.out
                                have hrs2 : rs2.length = n := by
                                  have h1 := congrArg List.length hm3
                                  have h2 : ssR.length = (rs1.map toS).length := (congrArg (fun z => z.1.length) HRR.out).trans (hearL_len ..)
                                  rw [List.length_map] at h1 h2
                                  rw [h1, h2]
                                  exact hrl1
                                have HM3 := Lib.hid hm3
                                clear hm3 HM2 HRR hokr
                                go_cut [183] (fun v wx => v = .bool false ∧ ∃ m, wx = w6.drewN m)
                                case first =>
                                  as_aux_lemma =>
                                    have hcp := (blk_cell HBk9.out 7).trans (show _ = some (.slice Ab lb.length cb) from rfl)
                                    have hcn := (blk_cell H9.out.b.head 1).trans (show _ = some (.int .i64 t) from rfl)
                                    obtain ⟨Ab', cb', hbe, _, _, hrdb⟩ := HBD.out
                                    have hbe : Value.slice Ab lb.length cb = Value.slice Ab' lb.length cb' := hbe
                                    injection hbe with hbe1 _ hbe2
                                    subst hbe1 hbe2
                                    have hrd9 := hrdb.keep H9.out.a.bel
                                    have hnw := Lib.hid (fun W (h : PQ w W lo1 hi1 g1 A1 c1 gs1 period t ssR) => now_any h.pol)
                                    have HPA := Lib.hid H9.out.a
                                    have HCP := Lib.hid hcp
                                    have HCN := Lib.hid hcn
                                    have HRD9 := Lib.hid hrd9
                                    have q1 : (er != er) = false := by simp
                                    have q2 : (t != t) = false := by simp
                                    have q3 : (lb.length != 0) = decide (lb ≠ []) := by cases lb <;> rfl
                                    clear hcp hcn hrd9 hrdb q3
                                    cases tk with
                                    | true =>
                                      obtain ⟨A5, c5, hv5, _⟩ := own_form (HV19.out rfl)
                                      subst hv5
                                      have HRV := Lib.hid (show Rd w6 w6.heap.size 1 A5 lb.length (Lib.byteCells lb) from Rd.of_own (HV19.out rfl))
                                      clear HV19 HV2
                                      refine wp_region_noPanic ?_
                                      refine wp_region_held_drew (S := (fun W => ∃ m, W = w6.drewN m)) (by kernel_rfl) ⟨1, rfl⟩ (fun hHeld => ?_)
                                      refine wpAnyH_take (i := 0) (v := ?v1) rfl (by kernel_rfl) (by kernel_rfl) (by kernel_rfl) (fun _ _ _ h => h) (Or.inl ⟨by kernel_rfl, ?y1⟩) (by assumption) ?t1
                                      case y1 => (intro w hSw; (try dsimp only at hSw); go_simp; try with_reducible rfl)
                                      try simp only [Act.put, List.getElem_toArray, List.getElem_cons_succ, List.getElem_cons_zero, List.setIfInBounds_toArray, List.set_cons_zero, List.set_cons_succ]
                                      refine wpAnyH_take (i := 1) (v := ?v2) rfl (by kernel_rfl) (by kernel_rfl) (by kernel_rfl) (fun _ _ _ h => h) (Or.inl ⟨by kernel_rfl, ?y2⟩) (by assumption) ?t2
                                      case y2 => (intro w hSw; (try dsimp only at hSw); go_simp; try with_reducible rfl)
                                      try simp only [Act.put, List.getElem_toArray, List.getElem_cons_succ, List.getElem_cons_zero, List.setIfInBounds_toArray, List.set_cons_zero, List.set_cons_succ]
                                      refine wpAnyH_take (i := 2) (v := ?v3) rfl (by kernel_rfl) (by kernel_rfl) (by kernel_rfl) (fun _ _ _ h => h) (Or.inl ⟨by kernel_rfl, ?y3⟩) (by assumption) ?t3
                                      case y3 => (intro w hSw; (try dsimp only at hSw); go_simp; try with_reducible rfl)
                                      try simp only [Act.put, List.getElem_toArray, List.getElem_cons_succ, List.getElem_cons_zero, List.setIfInBounds_toArray, List.set_cons_zero, List.set_cons_succ]
                                      refine wpAnyH_take (i := 3) (v := ?v4) rfl (by kernel_rfl) (by kernel_rfl) (by kernel_rfl) (fun _ _ _ h => h) (Or.inl ⟨by kernel_rfl, ?y4⟩) (by assumption) ?t4
                                      case y4 => (intro w hSw; (try dsimp only at hSw); go_simp; try with_reducible rfl)
                                      try simp only [Act.put, List.getElem_toArray, List.getElem_cons_succ, List.getElem_cons_zero, List.setIfInBounds_toArray, List.set_cons_zero, List.set_cons_succ]
                                      refine wpAnyH_take (i := 4) (v := ?v5) rfl (by kernel_rfl) (by kernel_rfl) (by kernel_rfl) (fun _ _ _ h => h) (Or.inl ⟨by kernel_rfl, ?y5⟩) (by assumption) ?t5
                                      case y5 => (intro w hSw; (try dsimp only at hSw); go_simp; try with_reducible rfl)
                                      try simp only [Act.put, List.getElem_toArray, List.getElem_cons_succ, List.getElem_cons_zero, List.setIfInBounds_toArray, List.set_cons_zero, List.set_cons_succ]
                                      refine wpAnyH_take (i := 5) (v := ?v6) rfl (by kernel_rfl) (by kernel_rfl) (by kernel_rfl) (fun _ _ _ h => h) (Or.inl ⟨by kernel_rfl, ?y6⟩) (by assumption) ?t6
                                      case y6 => (intro w hSw; (try dsimp only at hSw); go_simp; try with_reducible rfl)
                                      try simp only [Act.put, List.getElem_toArray, List.getElem_cons_succ, List.getElem_cons_zero, List.setIfInBounds_toArray, List.set_cons_zero, List.set_cons_succ]
                                      refine wpAnyH_take (i := 6) (v := ?v7) rfl (by kernel_rfl) (by kernel_rfl) (by kernel_rfl) (fun _ _ _ h => h) (Or.inl ⟨by kernel_rfl, ?y7⟩) (by assumption) ?t7
                                      case y7 => (intro w hSw; (try dsimp only at hSw); go_simp; try with_reducible rfl)
                                      try simp only [Act.put, List.getElem_toArray, List.getElem_cons_succ, List.getElem_cons_zero, List.setIfInBounds_toArray, List.set_cons_zero, List.set_cons_succ]
                                      refine wpAnyH_take (i := 7) (v := ?v8) rfl (by kernel_rfl) (by kernel_rfl) (by kernel_rfl) (fun _ _ _ h => h) (Or.inl ⟨by kernel_rfl, ?y8⟩) (by assumption) ?t8
                                      case y8 => (intro w hSw; (try dsimp only at hSw); go_simp; try with_reducible rfl)
                                      try simp only [Act.put, List.getElem_toArray, List.getElem_cons_succ, List.getElem_cons_zero, List.setIfInBounds_toArray, List.set_cons_zero, List.set_cons_succ]
                                      refine wpAnyH_take (i := 8) (v := ?v9) rfl (by kernel_rfl) (by kernel_rfl) (by kernel_rfl) (fun _ _ _ h => h) (Or.inl ⟨by kernel_rfl, ?y9⟩) (by assumption) ?t9
                                      case y9 => (intro w hSw; (try dsimp only at hSw); go_simp; try with_reducible rfl)
                                      try simp only [Act.put, List.getElem_toArray, List.getElem_cons_succ, List.getElem_cons_zero, List.setIfInBounds_toArray, List.set_cons_zero, List.set_cons_succ]
                                      refine wpAnyH_take (i := 9) (v := ?v10) rfl (by kernel_rfl) (by kernel_rfl) (by kernel_rfl) (fun _ _ _ h => h) (Or.inl ⟨by kernel_rfl, ?y10⟩) (by assumption) ?t10
                                      case y10 => (intro w hSw; (try dsimp only at hSw); go_simp; try with_reducible rfl)
                                      try simp only [Act.put, List.getElem_toArray, List.getElem_cons_succ, List.getElem_cons_zero, List.setIfInBounds_toArray, List.set_cons_zero, List.set_cons_succ]
                                      refine wpAnyH_take (i := 10) (v := ?v11) rfl (by kernel_rfl) (by kernel_rfl) (by kernel_rfl) (fun _ _ _ h => h) (Or.inl ⟨by kernel_rfl, ?y11⟩) (by assumption) ?t11
                                      case y11 => (intro w hSw; (try dsimp only at hSw); go_simp; try with_reducible rfl)
                                      try simp only [Act.put, List.getElem_toArray, List.getElem_cons_succ, List.getElem_cons_zero, List.setIfInBounds_toArray, List.set_cons_zero, List.set_cons_succ]
                                      refine wpAnyH_take (i := 11) (v := ?v12) rfl (by kernel_rfl) (by kernel_rfl) (by kernel_rfl) (fun _ _ _ h => h) (Or.inl ⟨by kernel_rfl, ?y12⟩) (by assumption) ?t12
                                      case y12 => (intro w hSw; (try dsimp only at hSw); go_simp; try with_reducible rfl)
                                      try simp only [Act.put, List.getElem_toArray, List.getElem_cons_succ, List.getElem_cons_zero, List.setIfInBounds_toArray, List.set_cons_zero, List.set_cons_succ]
                                      refine wpAnyH_take (i := 12) (v := .string (bs lb)) rfl (by kernel_rfl) (by kernel_rfl) (by kernel_rfl) (fun _ _ _ h => h) (Or.inl ⟨by kernel_rfl, ?zp13⟩) (by assumption) ?_
                                      case zp13 => (intro w hSw; obtain ⟨m, rfl⟩ := hSw; exact run_conv46 c5 (.tmp 157) rfl (by rfl) HRV.out)
                                      try simp only [Act.put, List.getElem_toArray, List.getElem_cons_succ, List.getElem_cons_zero, List.setIfInBounds_toArray, List.set_cons_zero, List.set_cons_succ]
                                      refine wpAnyH_take (i := 13) (v := ?v14) rfl (by kernel_rfl) (by kernel_rfl) (by kernel_rfl) (fun _ _ _ h => h) (Or.inl ⟨by kernel_rfl, ?y14⟩) (by assumption) ?t14
                                      case y14 => (intro w hSw; (try dsimp only at hSw); go_simp; try with_reducible rfl)
                                      try simp only [Act.put, List.getElem_toArray, List.getElem_cons_succ, List.getElem_cons_zero, List.setIfInBounds_toArray, List.set_cons_zero, List.set_cons_succ]
                                      refine wpAnyH_take (i := 14) (v := ?v15) rfl (by kernel_rfl) (by kernel_rfl) (by kernel_rfl) (fun _ _ _ h => h) (Or.inl ⟨by kernel_rfl, ?y15⟩) (by assumption) ?t15
                                      case y15 => (intro w hSw; (try dsimp only at hSw); go_simp; try with_reducible rfl)
                                      try simp only [Act.put, List.getElem_toArray, List.getElem_cons_succ, List.getElem_cons_zero, List.setIfInBounds_toArray, List.set_cons_zero, List.set_cons_succ]
                                      refine wpAnyH_take (i := 15) (v := .slice Ab lb.length cb) rfl (by kernel_rfl) (by kernel_rfl) (by kernel_rfl) (fun _ _ _ h => h) (Or.inl ⟨by kernel_rfl, ?zp16⟩) (by assumption) ?_
                                      case zp16 => (intro w hSw; obtain ⟨m, rfl⟩ := hSw; exact run_ld46 (.tmp 160) rfl (by rfl) HCP.out)
                                      try simp only [Act.put, List.getElem_toArray, List.getElem_cons_succ, List.getElem_cons_zero, List.setIfInBounds_toArray, List.set_cons_zero, List.set_cons_succ]
                                      refine wpAnyH_take (i := 16) (v := .string (bs lb)) rfl (by kernel_rfl) (by kernel_rfl) (by kernel_rfl) (fun _ _ _ h => h) (Or.inl ⟨by kernel_rfl, ?zp17⟩) (by assumption) ?_
                                      case zp17 => (intro w hSw; obtain ⟨m, rfl⟩ := hSw; exact run_conv46 cb (.tmp 161) rfl (by rfl) HRD9.out)
                                      try simp only [Act.put, List.getElem_toArray, List.getElem_cons_succ, List.getElem_cons_zero, List.setIfInBounds_toArray, List.set_cons_zero, List.set_cons_succ]
                                      refine wpAnyH_take (i := 17) (v := .bool false) rfl (by kernel_rfl) (by kernel_rfl) (by kernel_rfl) (fun _ _ _ h => h) (Or.inl ⟨by kernel_rfl, ?zp18⟩) (by assumption) ?_
                                      case zp18 => (intro w hSw; obtain ⟨m, rfl⟩ := hSw; go_simp; try simp)
                                      try simp only [Act.put, List.getElem_toArray, List.getElem_cons_succ, List.getElem_cons_zero, List.setIfInBounds_toArray, List.set_cons_zero, List.set_cons_succ]
                                      refine wpAnyH_take (i := 18) (v := ?v19) rfl (by kernel_rfl) (by kernel_rfl) (by kernel_rfl) (fun _ _ _ h => h) (Or.inl ⟨by kernel_rfl, ?y19⟩) (by assumption) ?t19
                                      case y19 => (intro w hSw; (try dsimp only at hSw); go_simp; try with_reducible rfl)
                                      try simp only [Act.put, List.getElem_toArray, List.getElem_cons_succ, List.getElem_cons_zero, List.setIfInBounds_toArray, List.set_cons_zero, List.set_cons_succ]
                                      refine wpAnyH_take (i := 19) (v := ?v20) rfl (by kernel_rfl) (by kernel_rfl) (by kernel_rfl) (fun _ _ _ h => h) (Or.inl ⟨by kernel_rfl, ?y20⟩) (by assumption) ?t20
                                      case y20 => (intro w hSw; (try dsimp only at hSw); go_simp; try with_reducible rfl)
                                      try simp only [Act.put, List.getElem_toArray, List.getElem_cons_succ, List.getElem_cons_zero, List.setIfInBounds_toArray, List.set_cons_zero, List.set_cons_succ]
                                      refine wpAnyH_take (i := 20) (v := ?v21) rfl (by kernel_rfl) (by kernel_rfl) (by kernel_rfl) (fun _ _ _ h => h) (Or.inl ⟨by kernel_rfl, ?y21⟩) (by assumption) ?t21
                                      case y21 => (intro w hSw; (try dsimp only at hSw); go_simp; try with_reducible rfl)
                                      try simp only [Act.put, List.getElem_toArray, List.getElem_cons_succ, List.getElem_cons_zero, List.setIfInBounds_toArray, List.set_cons_zero, List.set_cons_succ]
                                      refine wpAnyH_take (i := 21) (v := ?v22) rfl (by kernel_rfl) (by kernel_rfl) (by kernel_rfl) (fun _ _ _ h => h) (Or.inl ⟨by kernel_rfl, ?y22⟩) (by assumption) ?t22
                                      case y22 => (intro w hSw; (try dsimp only at hSw); go_simp; try with_reducible rfl)
                                      try simp only [Act.put, List.getElem_toArray, List.getElem_cons_succ, List.getElem_cons_zero, List.setIfInBounds_toArray, List.set_cons_zero, List.set_cons_succ]
                                      refine wpAnyH_take (i := 22) (v := ?v23) rfl (by kernel_rfl) (by kernel_rfl) (by kernel_rfl) (fun _ _ _ h => h) (Or.inl ⟨by kernel_rfl, ?y23⟩) (by assumption) ?t23
                                      case y23 => (intro w hSw; (try dsimp only at hSw); go_simp; try with_reducible rfl)
                                      try simp only [Act.put, List.getElem_toArray, List.getElem_cons_succ, List.getElem_cons_zero, List.setIfInBounds_toArray, List.set_cons_zero, List.set_cons_succ]
                                      refine wpAnyH_take (i := 23) (v := ?v24) rfl (by kernel_rfl) (by kernel_rfl) (by kernel_rfl) (fun _ _ _ h => h) (Or.inl ⟨by kernel_rfl, ?y24⟩) (by assumption) ?t24
                                      case y24 => (intro w hSw; (try dsimp only at hSw); go_simp; try with_reducible rfl)
                                      try simp only [Act.put, List.getElem_toArray, List.getElem_cons_succ, List.getElem_cons_zero, List.setIfInBounds_toArray, List.set_cons_zero, List.set_cons_succ]
                                      refine wpAnyH_take (i := 24) (v := undef) rfl (by kernel_rfl) (by kernel_rfl) (by kernel_rfl) (fun _ _ _ h => h) (Or.inr ⟨by kernel_rfl, rfl⟩) (by assumption) ?_
                                      try simp only [Act.put, List.getElem_toArray, List.getElem_cons_succ, List.getElem_cons_zero, List.setIfInBounds_toArray, List.set_cons_zero, List.set_cons_succ]
                                      refine wpAnyH_take (i := 25) (v := undef) rfl (by kernel_rfl) (by kernel_rfl) (by kernel_rfl) (fun _ _ _ h => h) (Or.inr ⟨by kernel_rfl, rfl⟩) (by assumption) ?_
                                      try simp only [Act.put, List.getElem_toArray, List.getElem_cons_succ, List.getElem_cons_zero, List.setIfInBounds_toArray, List.set_cons_zero, List.set_cons_succ]
                                      refine wpAnyH_take (i := 26) (v := undef) rfl (by kernel_rfl) (by kernel_rfl) (by kernel_rfl) (fun _ _ _ h => h) (Or.inr ⟨by kernel_rfl, rfl⟩) (by assumption) ?_
                                      try simp only [Act.put, List.getElem_toArray, List.getElem_cons_succ, List.getElem_cons_zero, List.setIfInBounds_toArray, List.set_cons_zero, List.set_cons_succ]
                                      refine wpAnyH_take (i := 27) (v := ?v25) rfl (by kernel_rfl) (by kernel_rfl) (by kernel_rfl) (fun _ _ _ h => h) (Or.inl ⟨by kernel_rfl, ?y25⟩) (by assumption) ?t25
                                      case y25 => (intro w hSw; (try dsimp only at hSw); go_simp; try with_reducible rfl)
                                      try simp only [Act.put, List.getElem_toArray, List.getElem_cons_succ, List.getElem_cons_zero, List.setIfInBounds_toArray, List.set_cons_zero, List.set_cons_succ]
                                      refine wpAnyH_take (i := 28) (v := ?v26) rfl (by kernel_rfl) (by kernel_rfl) (by kernel_rfl) (fun _ _ _ h => h) (Or.inl ⟨by kernel_rfl, ?y26⟩) (by assumption) ?t26
                                      case y26 => (intro w hSw; (try dsimp only at hSw); go_simp; try with_reducible rfl)
                                      try simp only [Act.put, List.getElem_toArray, List.getElem_cons_succ, List.getElem_cons_zero, List.setIfInBounds_toArray, List.set_cons_zero, List.set_cons_succ]
                                      refine wpAnyH_take (i := 29) (v := ?v27) rfl (by kernel_rfl) (by kernel_rfl) (by kernel_rfl) (fun _ _ _ h => h) (Or.inl ⟨by kernel_rfl, ?y27⟩) (by assumption) ?t27
                                      case y27 => (intro w hSw; (try dsimp only at hSw); go_simp; try with_reducible rfl)
                                      try simp only [Act.put, List.getElem_toArray, List.getElem_cons_succ, List.getElem_cons_zero, List.setIfInBounds_toArray, List.set_cons_zero, List.set_cons_succ]
                                      refine wpAnyH_take (i := 30) (v := ?v28) rfl (by kernel_rfl) (by kernel_rfl) (by kernel_rfl) (fun _ _ _ h => h) (Or.inl ⟨by kernel_rfl, ?y28⟩) (by assumption) ?t28
                                      case y28 => (intro w hSw; (try dsimp only at hSw); go_simp; try with_reducible rfl)
                                      try simp only [Act.put, List.getElem_toArray, List.getElem_cons_succ, List.getElem_cons_zero, List.setIfInBounds_toArray, List.set_cons_zero, List.set_cons_succ]
                                      refine wpAnyH_take (i := 32) (v := ?v29) rfl (by kernel_rfl) (by kernel_rfl) (by kernel_rfl) (fun _ _ _ h => h) (Or.inl ⟨by kernel_rfl, ?y29⟩) (by assumption) ?t29
                                      case y29 => (intro w hSw; (try dsimp only at hSw); go_simp; try with_reducible rfl)
                                      try simp only [Act.put, List.getElem_toArray, List.getElem_cons_succ, List.getElem_cons_zero, List.setIfInBounds_toArray, List.set_cons_zero, List.set_cons_succ]
                                      refine wpAnyH_take (i := 33) (v := .pointer (some ⟨g2, 0, none⟩)) rfl (by kernel_rfl) (by kernel_rfl) (by kernel_rfl) (fun _ _ _ h => h) (Or.inl ⟨by kernel_rfl, ?zp30⟩) (by assumption) ?_
                                      case zp30 => (intro w hSw; obtain ⟨m, rfl⟩ := hSw; unfold ptr; go_simp; try with_reducible rfl)
                                      try simp only [Act.put, List.getElem_toArray, List.getElem_cons_succ, List.getElem_cons_zero, List.setIfInBounds_toArray, List.set_cons_zero, List.set_cons_succ]
                                      refine wpAnyH_take (i := 34) (v := ?v31) rfl (by kernel_rfl) (by kernel_rfl) (by kernel_rfl) (fun _ _ _ h => h) (Or.inl ⟨by kernel_rfl, ?y31⟩) (by assumption) ?t31
                                      case y31 => (intro w hSw; (try dsimp only at hSw); go_simp; try with_reducible rfl)
                                      try simp only [Act.put, List.getElem_toArray, List.getElem_cons_succ, List.getElem_cons_zero, List.setIfInBounds_toArray, List.set_cons_zero, List.set_cons_succ]
                                      refine wpAnyH_take (i := 35) (v := .int .i64 t) rfl (by kernel_rfl) (by kernel_rfl) (by kernel_rfl) (fun _ _ _ h => h) (Or.inl ⟨by kernel_rfl, ?zp32⟩) (by assumption) ?_
                                      case zp32 => (intro w hSw; obtain ⟨m, rfl⟩ := hSw; exact run_ld3 (.tmp 180) rfl (by rfl) HCN.out)
                                      try simp only [Act.put, List.getElem_toArray, List.getElem_cons_succ, List.getElem_cons_zero, List.setIfInBounds_toArray, List.set_cons_zero, List.set_cons_succ]
                                      refine wpAnyH_ready (rs := [31]) (by kernel_rfl) (by simp) ?_
                                      refine AllReadyH.cons rfl (fun KX hKX => ?_) AllReadyH.nil
                                      rw [if_pos (by kernel_rfl)]
                                      refine wp_callK (run_call34 (g := g1) (.tmp 176) rfl (by rfl)) (hnw.out _ (HPA.out.drewN 1)) ?_
                                      rintro e w' ⟨rfl, rfl⟩
                                      refine ⟨_, rfl, ?_⟩
                                      refine hKX.out _ _ (by exact ⟨1, rfl⟩) (fun hHeld => ?_)
                                      clear hKX KX
                                      try simp only [Act.put, List.getElem_toArray, List.getElem_cons_succ, List.getElem_cons_zero, List.setIfInBounds_toArray, List.set_cons_zero, List.set_cons_succ]
                                      refine wpAnyH_take (i := 36) (v := ?v33) rfl (by kernel_rfl) (by kernel_rfl) (by kernel_rfl) (fun _ _ _ h => h) (Or.inl ⟨by kernel_rfl, ?y33⟩) (by assumption) ?t33
                                      case y33 => (intro w hSw; (try dsimp only at hSw); go_simp; try with_reducible rfl)
                                      try simp only [Act.put, List.getElem_toArray, List.getElem_cons_succ, List.getElem_cons_zero, List.setIfInBounds_toArray, List.set_cons_zero, List.set_cons_succ]
                                      refine wpAnyH_take (i := 37) (v := ?v34) rfl (by kernel_rfl) (by kernel_rfl) (by kernel_rfl) (fun _ _ _ h => h) (Or.inl ⟨by kernel_rfl, ?y34⟩) (by assumption) ?t34
                                      case y34 => (intro w hSw; (try dsimp only at hSw); go_simp; try with_reducible rfl)
                                      try simp only [Act.put, List.getElem_toArray, List.getElem_cons_succ, List.getElem_cons_zero, List.setIfInBounds_toArray, List.set_cons_zero, List.set_cons_succ]
                                      refine wpAnyH_done (by kernel_rfl) ?_ _
                                      refine NoPanic.normal ?_
                                      try simp only [Act.put, List.getElem_toArray, List.getElem_cons_succ, List.getElem_cons_zero, List.setIfInBounds_toArray, List.set_cons_zero, List.set_cons_succ]
                                      clear hHeld
                                      go_wp2_with fail
                                      go_meet
                                      exact ⟨rfl, 1, rfl⟩
                                    | false =>
                                      have hv5 := HV2.out rfl
                                      subst hv5
                                      clear HV19 HV2
                                      refine wp_region_noPanic ?_
                                      refine wp_region_held_drew (S := (fun W => ∃ m, W = w6.drewN m)) (by kernel_rfl) ⟨1, rfl⟩ (fun hHeld => ?_)
                                      refine wpAnyH_take (i := 0) (v := ?v35) rfl (by kernel_rfl) (by kernel_rfl) (by kernel_rfl) (fun _ _ _ h => h) (Or.inl ⟨by kernel_rfl, ?y35⟩) (by assumption) ?t35
                                      case y35 => (intro w hSw; (try dsimp only at hSw); go_simp; try with_reducible rfl)
                                      try simp only [Act.put, List.getElem_toArray, List.getElem_cons_succ, List.getElem_cons_zero, List.setIfInBounds_toArray, List.set_cons_zero, List.set_cons_succ]
                                      refine wpAnyH_take (i := 1) (v := ?v36) rfl (by kernel_rfl) (by kernel_rfl) (by kernel_rfl) (fun _ _ _ h => h) (Or.inl ⟨by kernel_rfl, ?y36⟩) (by assumption) ?t36
                                      case y36 => (intro w hSw; (try dsimp only at hSw); go_simp; try with_reducible rfl)
                                      try simp only [Act.put, List.getElem_toArray, List.getElem_cons_succ, List.getElem_cons_zero, List.setIfInBounds_toArray, List.set_cons_zero, List.set_cons_succ]
                                      refine wpAnyH_take (i := 2) (v := ?v37) rfl (by kernel_rfl) (by kernel_rfl) (by kernel_rfl) (fun _ _ _ h => h) (Or.inl ⟨by kernel_rfl, ?y37⟩) (by assumption) ?t37
                                      case y37 => (intro w hSw; (try dsimp only at hSw); go_simp; try with_reducible rfl)
                                      try simp only [Act.put, List.getElem_toArray, List.getElem_cons_succ, List.getElem_cons_zero, List.setIfInBounds_toArray, List.set_cons_zero, List.set_cons_succ]
                                      refine wpAnyH_take (i := 3) (v := ?v38) rfl (by kernel_rfl) (by kernel_rfl) (by kernel_rfl) (fun _ _ _ h => h) (Or.inl ⟨by kernel_rfl, ?y38⟩) (by assumption) ?t38
                                      case y38 => (intro w hSw; (try dsimp only at hSw); go_simp; try with_reducible rfl)
                                      try simp only [Act.put, List.getElem_toArray, List.getElem_cons_succ, List.getElem_cons_zero, List.setIfInBounds_toArray, List.set_cons_zero, List.set_cons_succ]
                                      refine wpAnyH_take (i := 4) (v := ?v39) rfl (by kernel_rfl) (by kernel_rfl) (by kernel_rfl) (fun _ _ _ h => h) (Or.inl ⟨by kernel_rfl, ?y39⟩) (by assumption) ?t39
                                      case y39 => (intro w hSw; (try dsimp only at hSw); go_simp; try with_reducible rfl)
                                      try simp only [Act.put, List.getElem_toArray, List.getElem_cons_succ, List.getElem_cons_zero, List.setIfInBounds_toArray, List.set_cons_zero, List.set_cons_succ]
                                      refine wpAnyH_take (i := 5) (v := ?v40) rfl (by kernel_rfl) (by kernel_rfl) (by kernel_rfl) (fun _ _ _ h => h) (Or.inl ⟨by kernel_rfl, ?y40⟩) (by assumption) ?t40
                                      case y40 => (intro w hSw; (try dsimp only at hSw); go_simp; try with_reducible rfl)
                                      try simp only [Act.put, List.getElem_toArray, List.getElem_cons_succ, List.getElem_cons_zero, List.setIfInBounds_toArray, List.set_cons_zero, List.set_cons_succ]
                                      refine wpAnyH_take (i := 6) (v := ?v41) rfl (by kernel_rfl) (by kernel_rfl) (by kernel_rfl) (fun _ _ _ h => h) (Or.inl ⟨by kernel_rfl, ?y41⟩) (by assumption) ?t41
                                      case y41 => (intro w hSw; (try dsimp only at hSw); go_simp; try with_reducible rfl)
                                      try simp only [Act.put, List.getElem_toArray, List.getElem_cons_succ, List.getElem_cons_zero, List.setIfInBounds_toArray, List.set_cons_zero, List.set_cons_succ]
                                      refine wpAnyH_take (i := 7) (v := ?v42) rfl (by kernel_rfl) (by kernel_rfl) (by kernel_rfl) (fun _ _ _ h => h) (Or.inl ⟨by kernel_rfl, ?y42⟩) (by assumption) ?t42
                                      case y42 => (intro w hSw; (try dsimp only at hSw); go_simp; try with_reducible rfl)
                                      try simp only [Act.put, List.getElem_toArray, List.getElem_cons_succ, List.getElem_cons_zero, List.setIfInBounds_toArray, List.set_cons_zero, List.set_cons_succ]
                                      refine wpAnyH_take (i := 8) (v := ?v43) rfl (by kernel_rfl) (by kernel_rfl) (by kernel_rfl) (fun _ _ _ h => h) (Or.inl ⟨by kernel_rfl, ?y43⟩) (by assumption) ?t43
                                      case y43 => (intro w hSw; (try dsimp only at hSw); go_simp; try with_reducible rfl)
                                      try simp only [Act.put, List.getElem_toArray, List.getElem_cons_succ, List.getElem_cons_zero, List.setIfInBounds_toArray, List.set_cons_zero, List.set_cons_succ]
                                      refine wpAnyH_take (i := 9) (v := ?v44) rfl (by kernel_rfl) (by kernel_rfl) (by kernel_rfl) (fun _ _ _ h => h) (Or.inl ⟨by kernel_rfl, ?y44⟩) (by assumption) ?t44
                                      case y44 => (intro w hSw; (try dsimp only at hSw); go_simp; try with_reducible rfl)
                                      try simp only [Act.put, List.getElem_toArray, List.getElem_cons_succ, List.getElem_cons_zero, List.setIfInBounds_toArray, List.set_cons_zero, List.set_cons_succ]
                                      refine wpAnyH_take (i := 10) (v := ?v45) rfl (by kernel_rfl) (by kernel_rfl) (by kernel_rfl) (fun _ _ _ h => h) (Or.inl ⟨by kernel_rfl, ?y45⟩) (by assumption) ?t45
                                      case y45 => (intro w hSw; (try dsimp only at hSw); go_simp; try with_reducible rfl)
                                      try simp only [Act.put, List.getElem_toArray, List.getElem_cons_succ, List.getElem_cons_zero, List.setIfInBounds_toArray, List.set_cons_zero, List.set_cons_succ]
                                      refine wpAnyH_take (i := 11) (v := undef) rfl (by kernel_rfl) (by kernel_rfl) (by kernel_rfl) (fun _ _ _ h => h) (Or.inr ⟨by kernel_rfl, rfl⟩) (by assumption) ?_
                                      try simp only [Act.put, List.getElem_toArray, List.getElem_cons_succ, List.getElem_cons_zero, List.setIfInBounds_toArray, List.set_cons_zero, List.set_cons_succ]
                                      refine wpAnyH_take (i := 12) (v := undef) rfl (by kernel_rfl) (by kernel_rfl) (by kernel_rfl) (fun _ _ _ h => h) (Or.inr ⟨by kernel_rfl, rfl⟩) (by assumption) ?_
                                      try simp only [Act.put, List.getElem_toArray, List.getElem_cons_succ, List.getElem_cons_zero, List.setIfInBounds_toArray, List.set_cons_zero, List.set_cons_succ]
                                      refine wpAnyH_take (i := 13) (v := undef) rfl (by kernel_rfl) (by kernel_rfl) (by kernel_rfl) (fun _ _ _ h => h) (Or.inr ⟨by kernel_rfl, rfl⟩) (by assumption) ?_
                                      try simp only [Act.put, List.getElem_toArray, List.getElem_cons_succ, List.getElem_cons_zero, List.setIfInBounds_toArray, List.set_cons_zero, List.set_cons_succ]
                                      refine wpAnyH_take (i := 14) (v := undef) rfl (by kernel_rfl) (by kernel_rfl) (by kernel_rfl) (fun _ _ _ h => h) (Or.inr ⟨by kernel_rfl, rfl⟩) (by assumption) ?_
                                      try simp only [Act.put, List.getElem_toArray, List.getElem_cons_succ, List.getElem_cons_zero, List.setIfInBounds_toArray, List.set_cons_zero, List.set_cons_succ]
                                      refine wpAnyH_take (i := 15) (v := undef) rfl (by kernel_rfl) (by kernel_rfl) (by kernel_rfl) (fun _ _ _ h => h) (Or.inr ⟨by kernel_rfl, rfl⟩) (by assumption) ?_
                                      try simp only [Act.put, List.getElem_toArray, List.getElem_cons_succ, List.getElem_cons_zero, List.setIfInBounds_toArray, List.set_cons_zero, List.set_cons_succ]
                                      refine wpAnyH_take (i := 16) (v := undef) rfl (by kernel_rfl) (by kernel_rfl) (by kernel_rfl) (fun _ _ _ h => h) (Or.inr ⟨by kernel_rfl, rfl⟩) (by assumption) ?_
                                      try simp only [Act.put, List.getElem_toArray, List.getElem_cons_succ, List.getElem_cons_zero, List.setIfInBounds_toArray, List.set_cons_zero, List.set_cons_succ]
                                      refine wpAnyH_take (i := 17) (v := undef) rfl (by kernel_rfl) (by kernel_rfl) (by kernel_rfl) (fun _ _ _ h => h) (Or.inr ⟨by kernel_rfl, rfl⟩) (by assumption) ?_
                                      try simp only [Act.put, List.getElem_toArray, List.getElem_cons_succ, List.getElem_cons_zero, List.setIfInBounds_toArray, List.set_cons_zero, List.set_cons_succ]
                                      refine wpAnyH_take (i := 18) (v := ?v46) rfl (by kernel_rfl) (by kernel_rfl) (by kernel_rfl) (fun _ _ _ h => h) (Or.inl ⟨by kernel_rfl, ?y46⟩) (by assumption) ?t46
                                      case y46 => (intro w hSw; (try dsimp only at hSw); go_simp; try with_reducible rfl)
                                      try simp only [Act.put, List.getElem_toArray, List.getElem_cons_succ, List.getElem_cons_zero, List.setIfInBounds_toArray, List.set_cons_zero, List.set_cons_succ]
                                      refine wpAnyH_take (i := 19) (v := ?v47) rfl (by kernel_rfl) (by kernel_rfl) (by kernel_rfl) (fun _ _ _ h => h) (Or.inl ⟨by kernel_rfl, ?y47⟩) (by assumption) ?t47
                                      case y47 => (intro w hSw; (try dsimp only at hSw); go_simp; try with_reducible rfl)
                                      try simp only [Act.put, List.getElem_toArray, List.getElem_cons_succ, List.getElem_cons_zero, List.setIfInBounds_toArray, List.set_cons_zero, List.set_cons_succ]
                                      refine wpAnyH_take (i := 20) (v := ?v48) rfl (by kernel_rfl) (by kernel_rfl) (by kernel_rfl) (fun _ _ _ h => h) (Or.inl ⟨by kernel_rfl, ?y48⟩) (by assumption) ?t48
                                      case y48 => (intro w hSw; (try dsimp only at hSw); go_simp; try with_reducible rfl)
                                      try simp only [Act.put, List.getElem_toArray, List.getElem_cons_succ, List.getElem_cons_zero, List.setIfInBounds_toArray, List.set_cons_zero, List.set_cons_succ]
                                      refine wpAnyH_take (i := 21) (v := ?v49) rfl (by kernel_rfl) (by kernel_rfl) (by kernel_rfl) (fun _ _ _ h => h) (Or.inl ⟨by kernel_rfl, ?y49⟩) (by assumption) ?t49
                                      case y49 => (intro w hSw; (try dsimp only at hSw); go_simp; try with_reducible rfl)
                                      try simp only [Act.put, List.getElem_toArray, List.getElem_cons_succ, List.getElem_cons_zero, List.setIfInBounds_toArray, List.set_cons_zero, List.set_cons_succ]
                                      refine wpAnyH_take (i := 22) (v := ?v50) rfl (by kernel_rfl) (by kernel_rfl) (by kernel_rfl) (fun _ _ _ h => h) (Or.inl ⟨by kernel_rfl, ?y50⟩) (by assumption) ?t50
                                      case y50 => (intro w hSw; (try dsimp only at hSw); go_simp; try with_reducible rfl)
                                      try simp only [Act.put, List.getElem_toArray, List.getElem_cons_succ, List.getElem_cons_zero, List.setIfInBounds_toArray, List.set_cons_zero, List.set_cons_succ]
                                      refine wpAnyH_take (i := 23) (v := ?v51) rfl (by kernel_rfl) (by kernel_rfl) (by kernel_rfl) (fun _ _ _ h => h) (Or.inl ⟨by kernel_rfl, ?y51⟩) (by assumption) ?t51
                                      case y51 => (intro w hSw; (try dsimp only at hSw); go_simp; try with_reducible rfl)
                                      try simp only [Act.put, List.getElem_toArray, List.getElem_cons_succ, List.getElem_cons_zero, List.setIfInBounds_toArray, List.set_cons_zero, List.set_cons_succ]
                                      refine wpAnyH_take (i := 24) (v := ?v52) rfl (by kernel_rfl) (by kernel_rfl) (by kernel_rfl) (fun _ _ _ h => h) (Or.inl ⟨by kernel_rfl, ?y52⟩) (by assumption) ?t52
                                      case y52 => (intro w hSw; (try dsimp only at hSw); go_simp; try with_reducible rfl)
                                      try simp only [Act.put, List.getElem_toArray, List.getElem_cons_succ, List.getElem_cons_zero, List.setIfInBounds_toArray, List.set_cons_zero, List.set_cons_succ]
                                      refine wpAnyH_take (i := 25) (v := ?v53) rfl (by kernel_rfl) (by kernel_rfl) (by kernel_rfl) (fun _ _ _ h => h) (Or.inl ⟨by kernel_rfl, ?y53⟩) (by assumption) ?t53
                                      case y53 => (intro w hSw; (try dsimp only at hSw); go_simp; try with_reducible rfl)
                                      try simp only [Act.put, List.getElem_toArray, List.getElem_cons_succ, List.getElem_cons_zero, List.setIfInBounds_toArray, List.set_cons_zero, List.set_cons_succ]
                                      refine wpAnyH_take (i := 26) (v := ?v54) rfl (by kernel_rfl) (by kernel_rfl) (by kernel_rfl) (fun _ _ _ h => h) (Or.inl ⟨by kernel_rfl, ?y54⟩) (by assumption) ?t54
                                      case y54 => (intro w hSw; (try dsimp only at hSw); go_simp; try with_reducible rfl)
                                      try simp only [Act.put, List.getElem_toArray, List.getElem_cons_succ, List.getElem_cons_zero, List.setIfInBounds_toArray, List.set_cons_zero, List.set_cons_succ]
                                      refine wpAnyH_take (i := 27) (v := ?v55) rfl (by kernel_rfl) (by kernel_rfl) (by kernel_rfl) (fun _ _ _ h => h) (Or.inl ⟨by kernel_rfl, ?y55⟩) (by assumption) ?t55
                                      case y55 => (intro w hSw; (try dsimp only at hSw); go_simp; try with_reducible rfl)
                                      try simp only [Act.put, List.getElem_toArray, List.getElem_cons_succ, List.getElem_cons_zero, List.setIfInBounds_toArray, List.set_cons_zero, List.set_cons_succ]
                                      refine wpAnyH_take (i := 28) (v := ?v56) rfl (by kernel_rfl) (by kernel_rfl) (by kernel_rfl) (fun _ _ _ h => h) (Or.inl ⟨by kernel_rfl, ?y56⟩) (by assumption) ?t56
                                      case y56 => (intro w hSw; (try dsimp only at hSw); go_simp; try with_reducible rfl)
                                      try simp only [Act.put, List.getElem_toArray, List.getElem_cons_succ, List.getElem_cons_zero, List.setIfInBounds_toArray, List.set_cons_zero, List.set_cons_succ]
                                      refine wpAnyH_take (i := 29) (v := ?v57) rfl (by kernel_rfl) (by kernel_rfl) (by kernel_rfl) (fun _ _ _ h => h) (Or.inl ⟨by kernel_rfl, ?y57⟩) (by assumption) ?t57
                                      case y57 => (intro w hSw; (try dsimp only at hSw); go_simp; try with_reducible rfl)
                                      try simp only [Act.put, List.getElem_toArray, List.getElem_cons_succ, List.getElem_cons_zero, List.setIfInBounds_toArray, List.set_cons_zero, List.set_cons_succ]
                                      refine wpAnyH_take (i := 30) (v := ?v58) rfl (by kernel_rfl) (by kernel_rfl) (by kernel_rfl) (fun _ _ _ h => h) (Or.inl ⟨by kernel_rfl, ?y58⟩) (by assumption) ?t58
                                      case y58 => (intro w hSw; (try dsimp only at hSw); go_simp; try with_reducible rfl)
                                      try simp only [Act.put, List.getElem_toArray, List.getElem_cons_succ, List.getElem_cons_zero, List.setIfInBounds_toArray, List.set_cons_zero, List.set_cons_succ]
                                      refine wpAnyH_take (i := 32) (v := ?v59) rfl (by kernel_rfl) (by kernel_rfl) (by kernel_rfl) (fun _ _ _ h => h) (Or.inl ⟨by kernel_rfl, ?y59⟩) (by assumption) ?t59
                                      case y59 => (intro w hSw; (try dsimp only at hSw); go_simp; try with_reducible rfl)
                                      try simp only [Act.put, List.getElem_toArray, List.getElem_cons_succ, List.getElem_cons_zero, List.setIfInBounds_toArray, List.set_cons_zero, List.set_cons_succ]
                                      refine wpAnyH_take (i := 33) (v := .pointer (some ⟨g2, 0, none⟩)) rfl (by kernel_rfl) (by kernel_rfl) (by kernel_rfl) (fun _ _ _ h => h) (Or.inl ⟨by kernel_rfl, ?zp60⟩) (by assumption) ?_
                                      case zp60 => (intro w hSw; obtain ⟨m, rfl⟩ := hSw; unfold ptr; go_simp; try with_reducible rfl)
                                      try simp only [Act.put, List.getElem_toArray, List.getElem_cons_succ, List.getElem_cons_zero, List.setIfInBounds_toArray, List.set_cons_zero, List.set_cons_succ]
                                      refine wpAnyH_take (i := 34) (v := ?v61) rfl (by kernel_rfl) (by kernel_rfl) (by kernel_rfl) (fun _ _ _ h => h) (Or.inl ⟨by kernel_rfl, ?y61⟩) (by assumption) ?t61
                                      case y61 => (intro w hSw; (try dsimp only at hSw); go_simp; try with_reducible rfl)
                                      try simp only [Act.put, List.getElem_toArray, List.getElem_cons_succ, List.getElem_cons_zero, List.setIfInBounds_toArray, List.set_cons_zero, List.set_cons_succ]
                                      refine wpAnyH_take (i := 35) (v := .int .i64 t) rfl (by kernel_rfl) (by kernel_rfl) (by kernel_rfl) (fun _ _ _ h => h) (Or.inl ⟨by kernel_rfl, ?zp62⟩) (by assumption) ?_
                                      case zp62 => (intro w hSw; obtain ⟨m, rfl⟩ := hSw; exact run_ld3 (.tmp 180) rfl (by rfl) HCN.out)
                                      try simp only [Act.put, List.getElem_toArray, List.getElem_cons_succ, List.getElem_cons_zero, List.setIfInBounds_toArray, List.set_cons_zero, List.set_cons_succ]
                                      refine wpAnyH_ready (rs := [31]) (by kernel_rfl) (by simp) ?_
                                      refine AllReadyH.cons rfl (fun KX hKX => ?_) AllReadyH.nil
                                      rw [if_pos (by kernel_rfl)]
                                      refine wp_callK (run_call34 (g := g1) (.tmp 176) rfl (by rfl)) (hnw.out _ (HPA.out.drewN 1)) ?_
                                      rintro e w' ⟨rfl, rfl⟩
                                      refine ⟨_, rfl, ?_⟩
                                      refine hKX.out _ _ (by exact ⟨1, rfl⟩) (fun hHeld => ?_)
                                      clear hKX KX
                                      try simp only [Act.put, List.getElem_toArray, List.getElem_cons_succ, List.getElem_cons_zero, List.setIfInBounds_toArray, List.set_cons_zero, List.set_cons_succ]
                                      refine wpAnyH_take (i := 36) (v := ?v63) rfl (by kernel_rfl) (by kernel_rfl) (by kernel_rfl) (fun _ _ _ h => h) (Or.inl ⟨by kernel_rfl, ?y63⟩) (by assumption) ?t63
                                      case y63 => (intro w hSw; (try dsimp only at hSw); go_simp; try with_reducible rfl)
                                      try simp only [Act.put, List.getElem_toArray, List.getElem_cons_succ, List.getElem_cons_zero, List.setIfInBounds_toArray, List.set_cons_zero, List.set_cons_succ]
                                      refine wpAnyH_take (i := 37) (v := ?v64) rfl (by kernel_rfl) (by kernel_rfl) (by kernel_rfl) (fun _ _ _ h => h) (Or.inl ⟨by kernel_rfl, ?y64⟩) (by assumption) ?t64
                                      case y64 => (intro w hSw; (try dsimp only at hSw); go_simp; try with_reducible rfl)
                                      try simp only [Act.put, List.getElem_toArray, List.getElem_cons_succ, List.getElem_cons_zero, List.setIfInBounds_toArray, List.set_cons_zero, List.set_cons_succ]
                                      refine wpAnyH_done (by kernel_rfl) ?_ _
                                      refine NoPanic.normal ?_
                                      try simp only [Act.put, List.getElem_toArray, List.getElem_cons_succ, List.getElem_cons_zero, List.setIfInBounds_toArray, List.set_cons_zero, List.set_cons_succ]
                                      clear hHeld
                                      go_wp2_with fail
                                      go_meet
                                      exact ⟨rfl, 1, rfl⟩
                                case rest =>
                                  as_aux_lemma =>
                                    obtain ⟨rfl, m, rfl⟩ := hcut
                                    have H10 := Lib.hid (H9.out.drewN m)
                                    have HBk10 := Lib.hid (blk_drewN HBk9.out m)
                                    have HQ10 := Lib.hid (blk_drewN HQ9.out m)
                                    have HVo := Lib.hid (fun h => own_drewN (HV19.out h) m)
                                    have hso := own_drewN HOB9.out m
                                    generalize w6.drewN m = wd at *
                                    have hbl : lb = [] ∨ ∃ cs, Blk wd kB 5 cs ∧ lb.length ≤ cs.length ∧ ∀ x, x < lb.length → ∃ y, cs[x]? = some (.int .u8 y) := by
                                      rcases HK3.out with h | h
                                      · exact .inl h
                                      · refine .inr ?_
                                        subst h
                                        obtain ⟨cs, hb, hl, ht⟩ := own_blk hso
                                        refine ⟨cs, hb, by have h63 := hso; obtain ⟨_, _, e, hcc, _⟩ := own_form hso; injection e with _ _ e; omega, fun x hx => ?_⟩
                                        have e : cs[x]? = (cs.take (lb.length * 1))[x]? := by rw [List.getElem?_take, if_pos (by omega)]
                                        rw [e, ht]
                                        unfold Lib.byteCells
                                        exact ⟨_, by simp [hx]; rfl⟩
                                    have HBL := Lib.hid hbl
                                    have hAB : lb = [] ∨ AB = some ⟨kB, 0, none⟩ := HK3.out
                                    have hqk : q < kB := by omega
                                    clear hso hbl H9 HBk9 HQ9 HOB9 HV19 HO8 HK3
                                    have hq5 := (blk_cell HQ10.out 5).trans (show _ = some (.slice AB lb.length cB) from rfl)
                                    go_upto_block 8 with fail
                                    clear hq5
                                    go_cut [16] (fun v wx => v = .pointer (some ⟨q, 0, none⟩) ∧ Hid (DQ w wx lo1 hi1 g1 A1 c1 gs1 q X4.heap.size lo2 hi2 g2 A2 c2 period t ssR t rs2) ∧ Hid (Blk wx p 50 (opc ⟨on, so, ⟨lost, st, loc, et, mo, .slice Ab lb.length cb⟩, lb⟩)) ∧ Hid (tk = true → wx.ownsRow X4.heap.size 5 1 v5 lb.length (Lib.byteCells lb)))
                                    case first =>
                                      as_aux_lemma =>
                                        go_upto_block 9 with fail
                                        go_loopw [187] (fun i wx => ∃ x : Nat, i = .int .i64 (x : Int) ∧ x ≤ lb.length ∧ Hid (DQ w wx lo1 hi1 g1 A1 c1 gs1 q X4.heap.size lo2 hi2 g2 A2 c2 period t ssR t rs2) ∧ Hid (Blk wx p 50 (opc ⟨on, so, ⟨lost, st, loc, et, mo, .slice Ab lb.length cb⟩, lb⟩)) ∧ Hid (tk = true → wx.ownsRow X4.heap.size 5 1 v5 lb.length (Lib.byteCells lb)) ∧ Hid (Blk wx q 48 (acs ⟨lost, st, loc, et, mo, .slice AB lb.length cB⟩)) ∧ Hid (lb = [] ∨ ∃ cs, Blk wx kB 5 cs ∧ lb.length ≤ cs.length ∧ ∀ x, x < lb.length → ∃ y, cs[x]? = some (.int .u8 y))) (fun i _ => lb.length - (intOf i).toNat)
                                        case atStart => exact ⟨0, rfl, Nat.zero_le _, H10, HBk10, HVo, HQ10, HBL⟩
                                        case round =>
                                          obtain ⟨x, rfl, hx, HD, HP, HV, HQ, HL⟩ := hrel
                                          clear H10 HBk10 HVo HQ10 HBL
                                          by_cases hxl : x < lb.length
                                          · have tx : decide ((x : Int) < (lb.length : Int)) = true := by rw [decide_eq_true_eq]; omega
                                            have hne : lb ≠ [] := fun e => by rw [e] at hxl; cases hxl
                                            obtain rfl := hAB.resolve_left hne
                                            obtain ⟨cs, hb, hl, hcs⟩ := HL.out.resolve_left hne
                                            obtain ⟨y, hy⟩ := hcs x hxl
                                            have hcy := (blk_cell hb x).trans hy
                                            have hq5 := (blk_cell HQ.out 5).trans (show _ = some (.slice (some ⟨kB, 0, none⟩) lb.length cB) from rfl)
                                            have HBb := Lib.hid hb
                                            have HCS := Lib.hid hcs
                                            have hxc : x < cs.length := by omega
                                            clear hb hcs hy HL hne
                                            obtain ⟨z, hz⟩ : ∃ z, z = bits BinOp.xor IntKind.u8 y 255 := ⟨_, rfl⟩
                                            have HZ := Lib.hid hz
                                            clear hz
                                            go_wp2_with (first | ((with_reducible refine atD 195 ?_); refine wpList_val rfl (.int .u8 z) (by rw [HZ.out]; exact run_xor5 y (.tmp 194) _ rfl (by rfl)) ?_) | ((with_reducible refine atS 196 195 ?_); refine wpList_storeC rfl 5 (.tmp 196) (.tmp 195) rfl kB x (.int .u8 z) (by rfl) (by rfl) rfl info5 5 _ HBb.out hxc ?_; intro X5 hb1 ht1; have HD2 := Lib.hid (HD.out.far ht1 ⟨by omega, hk2'⟩ hqh); have HP2 := Lib.hid (ht1.blk HP.out (by omega)); have HQ2 := Lib.hid (ht1.blk HQ.out (by omega)); have HV2' := Lib.hid (fun h => own_turned (HV.out h) ht1 (fun z hz e => by have := own_size (HV.out h) z hz; omega)); have HL2 := Lib.hid (show lb = [] ∨ ∃ cs, Blk X5 kB 5 cs ∧ lb.length ≤ cs.length ∧ ∀ x, x < lb.length → ∃ y, cs[x]? = some (.int .u8 y) from .inr ⟨_, hb1, by rw [List.length_set]; exact hl, xor_cells z HCS.out hxc⟩); clear hb1 ht1))
                                            exact ⟨⟨x + 1, by go_num, by omega, HD2, HP2, HV2', HQ2, HL2⟩, by simp [intOf]; omega⟩
                                          · have tx : decide ((x : Int) < (lb.length : Int)) = false := by rw [decide_eq_false_iff_not]; omega
                                            go_wp2_with fail
                                            go_meet
                                            exact ⟨rfl, HD, HP, HV⟩
                                    case rest =>
                                      as_aux_lemma =>
                                        obtain ⟨rfl, H11, HBk11, HVo2⟩ := hcut
                                        clear H10 HBk10 HQ10 HVo HBL hAB
                                        have hcp := (blk_cell HBk11.out 7).trans (show _ = some (.slice Ab lb.length cb) from rfl)
                                        obtain ⟨Ab', cb', hbe, _, _, hrdb⟩ := HBD.out
                                        have hbe : Value.slice Ab lb.length cb = Value.slice Ab' lb.length cb' := hbe
                                        injection hbe with hbe1 _ hbe2
                                        subst hbe1 hbe2
                                        have HRD := Lib.hid (hrdb.keep H11.out.a.bel)
                                        have q1 : ((bs lb).toList != (bs lb).toList) = false := by simp
                                        clear hrdb
                                        go_upto_region 41 with fail
                                        go_cut [207] (fun v wx => v = .bool false ∧ wx = wc)
                                        case first =>
                                          as_aux_lemma =>
                                            cases tk with
                                            | true =>
                                              obtain ⟨A5, c5, hv5, _⟩ := own_form (HVo2.out rfl)
                                              subst hv5
                                              have HRV := Lib.hid (show Rd wc wc.heap.size 1 A5 lb.length (Lib.byteCells lb) from Rd.of_own (HVo2.out rfl))
                                              clear HVo2 HV2
                                              go_wp2_with (first | ((with_reducible refine atD 201 ?_); refine wpList_valW (by rfl) (.string (bs lb)) (run_conv46 c5 (.tmp 200) rfl (by rfl) HRV.out) ?_) | ((with_reducible refine atD 205 ?_); refine wpList_valW (by rfl) (.string (bs lb)) (run_conv46 cb (.tmp 204) rfl (by rfl) HRD.out) ?_))
                                              go_meet
                                              exact ⟨rfl, rfl⟩
                                            | false =>
                                              go_wp2_with fail
                                              go_meet
                                              exact ⟨rfl, rfl⟩
                                        case rest =>
                                          as_aux_lemma =>
                                            obtain ⟨rfl, rfl⟩ := hcut
                                            clear hcp HRD HVo2 HV2 HBk11 q1
                                            go_upto_block 11 with fail
                                            go_loopw [23] (fun i wx => ∃ sv : Int, i = .int .i64 sv ∧ (-1 ≤ sv ∧ sv ≤ (n : Int) + 1) ∧ Hid (DQ w wx lo1 hi1 g1 A1 c1 gs1 q X4.heap.size lo2 hi2 g2 A2 c2 period t ssR t rs2)) (fun i _ => ((n : Int) + 1 - intOf i).toNat)
                                            case atStart => exact ⟨-1, rfl, ⟨by omega, by omega⟩, H11⟩
                                            case round =>
                                              obtain ⟨sv, rfl, hsv, HD⟩ := hrel
                                              clear H11
                                              have HPA := Lib.hid HD.out.a
                                              by_cases hsn : sv ≤ (n : Int)
                                              · by_cases hin : 0 ≤ sv ∧ sv < (n : Int)
                                                · obtain ⟨x, rfl⟩ : ∃ x : Nat, sv = (x : Int) := ⟨sv.toNat, by omega⟩
                                                  have hxn : x < n := by omega
                                                  have u1 : decide ((x : Int) ≤ (n : Int)) = true := decide_eq_true hsn
                                                  have u1' : decide (x ≤ n) = true := decide_eq_true (by omega)
                                                  have u2 : decide ((x : Int) ≥ 0) = true := decide_eq_true hin.1
                                                  have u3 : decide ((x : Int) < (n : Int)) = true := decide_eq_true hin.2
                                                  have u3' : decide (x < n) = true := decide_eq_true hxn
                                                  have hxr : x < rs2.length := by rw [hrs2]; exact hxn
                                                  obtain ⟨gr, pre, post, hA, hpre, hz1, hz2, hz3, hblk, hz4, hz5⟩ := HD.out.b.view x hxr
                                                  clear hz1 hz2 hz3 hz4 hz5
                                                  subst hA
                                                  have k2 := (blk_cell HD.out.b.head 2).trans (show _ = some (.slice (some ⟨gr, 0, none⟩) rs2.length c2) from rfl)
                                                  rw [hrs2] at k2
                                                  obtain ⟨r, hr⟩ : ∃ r, r = rs2.getD x default := ⟨_, rfl⟩
                                                  rw [← hr] at hblk
                                                  have hg : ssR.getD x default = toS r := by
                                                    rw [← HM3.out, hr]
                                                    simp [List.getD_eq_getElem?_getD, List.getElem?_map, hxr]
                                                  have hxs : x < ssR.length := by
                                                    rw [← HM3.out, List.length_map]
                                                    exact hxr
                                                  obtain ⟨y1, hy1⟩ : ∃ y, y = r.due := ⟨_, rfl⟩
                                                  obtain ⟨y2, hy2⟩ : ∃ y, y = r.own := ⟨_, rfl⟩
                                                  obtain ⟨y3, hy3⟩ : ∃ y, y = r.fails := ⟨_, rfl⟩
                                                  have s3 : wr.cell? ⟨gr, x * 8 + 3, none⟩ = some (.int .i64 y1) := by rw [hy1]; exact src_cell hblk hpre 3 _ rfl
                                                  have s0 : wr.cell? ⟨gr, x * 8, none⟩ = some (.string (bs y2)) := by rw [hy2]; exact src_cell hblk hpre 0 _ rfl
                                                  have s4 : wr.cell? ⟨gr, x * 8 + 4, none⟩ = some (.int .i64 y3) := by rw [hy3]; exact src_cell hblk hpre 4 _ rfl
                                                  have hdu := Lib.hid (fun W (h : PQ w W lo1 hi1 g1 A1 c1 gs1 period t ssR) => show Calls Tryz.prog 35 #[ptr g1, .int .i64 ((x : Nat) : Int)] W fun e w' => e = .returned (.int .i64 y1) ∧ W = w' from by (have h5 := duePQ h x hxs; rw [hg] at h5; rw [hy1]; exact h5))
                                                  have hli := Lib.hid (fun W (h : PQ w W lo1 hi1 g1 A1 c1 gs1 period t ssR) => show Calls Tryz.prog 36 #[ptr g1, .int .i64 ((x : Nat) : Int)] W fun e w' => e = .returned (.string (bs y2)) ∧ W = w' from by (have h5 := linkPQ h x hxs; rw [hg] at h5; rw [hy2]; exact h5))
                                                  have hfa := Lib.hid (fun W (h : PQ w W lo1 hi1 g1 A1 c1 gs1 period t ssR) => show Calls Tryz.prog 37 #[ptr g1, .int .i64 ((x : Nat) : Int)] W fun e w' => e = .returned (.int .i64 y3) ∧ W = w' from by (have h5 := failsPQ h x hxs; rw [hg] at h5; rw [hy3]; exact h5))
                                                  have q1 : (y1 != y1) = false := by simp
                                                  have q2 : ((bs y2).toList != (bs y2).toList) = false := by simp
                                                  have q3 : (y3 != y3) = false := by simp
                                                  clear hblk hpre hg hxs hy1 hy2 hy3 hr hxr hin hsn
                                                  go_upto_region 48 with fail
                                                  unfold ptr
                                                  go_quiet (fail)
                                                  rw [show (Value.pointer (some ⟨g1, 0, none⟩)) = ptr g1 from rfl, show (Value.pointer (some ⟨g2, 0, none⟩)) = ptr g2 from rfl]
                                                  have HD2 := Lib.hid (HD.out.drewN nq)
                                                  have HPA2 := Lib.hid HD2.out.a
                                                  clear k2 s3 s0 s4 HPA HD
                                                  generalize wr.drewN nq = wd at *
                                                  go_wp2_with (first | (go_at_call 37; refine (hfa.out _ HPA2.out).mono ?_; rintro e w' ⟨rfl, rfl⟩; dsimp only) | (go_at_call 36; refine (hli.out _ HPA2.out).mono ?_; rintro e w' ⟨rfl, rfl⟩; dsimp only) | (go_at_call 35; refine (hdu.out _ HPA2.out).mono ?_; rintro e w' ⟨rfl, rfl⟩; dsimp only))
                                                  exact ⟨⟨(x : Int) + 1, by go_num, ⟨by omega, by omega⟩, HD2⟩, by simp [intOf]; omega⟩
                                                · have u1 : decide (sv ≤ (n : Int)) = true := decide_eq_true hsn
                                                  have hout : sv < 0 ∨ (gs1.length : Int) ≤ sv := by
                                                    have h1 := HPA.out.pol.len
                                                    have h2 := congrArg List.length HM3.out
                                                    rw [List.length_map] at h2
                                                    omega
                                                  have hdu := Lib.hid (fun W (h : PQ w W lo1 hi1 g1 A1 c1 gs1 period t ssR) => due_out h.pol sv hout)
                                                  have hli := Lib.hid (fun W (h : PQ w W lo1 hi1 g1 A1 c1 gs1 period t ssR) => link_out h.pol sv hout)
                                                  have hfa := Lib.hid (fun W (h : PQ w W lo1 hi1 g1 A1 c1 gs1 period t ssR) => fails_out h.pol sv hout)
                                                  clear hout
                                                  have q2 : ((⟨#[]⟩ : ByteArray).toList != (⟨#[]⟩ : ByteArray).toList) = false := by simp
                                                  rcases (show sv < 0 ∨ (0 ≤ sv ∧ (n : Int) ≤ sv) by omega) with h0 | h0
                                                  · have u2 : decide (sv ≥ 0) = false := decide_eq_false (by omega)
                                                    go_wp2_with (first | (go_at_call 37; refine (hfa.out _ (by first | exact HPA.out | exact HPA.out.drewN _)).mono ?_; rintro e w' ⟨rfl, rfl⟩) | (go_at_call 36; refine (hli.out _ (by first | exact HPA.out | exact HPA.out.drewN _)).mono ?_; rintro e w' ⟨rfl, rfl⟩) | (go_at_call 35; refine (hdu.out _ (by first | exact HPA.out | exact HPA.out.drewN _)).mono ?_; rintro e w' ⟨rfl, rfl⟩))
                                                    exact ⟨⟨sv + 1, by go_num, ⟨by omega, by omega⟩, HD⟩, by simp [intOf]; omega⟩
                                                  · have u2 : decide (sv ≥ 0) = true := decide_eq_true h0.1
                                                    have u3 : decide (sv < (n : Int)) = false := decide_eq_false (by omega)
                                                    go_wp2_with (first | (go_at_call 37; refine (hfa.out _ (by first | exact HPA.out | exact HPA.out.drewN _)).mono ?_; rintro e w' ⟨rfl, rfl⟩) | (go_at_call 36; refine (hli.out _ (by first | exact HPA.out | exact HPA.out.drewN _)).mono ?_; rintro e w' ⟨rfl, rfl⟩) | (go_at_call 35; refine (hdu.out _ (by first | exact HPA.out | exact HPA.out.drewN _)).mono ?_; rintro e w' ⟨rfl, rfl⟩))
                                                    exact ⟨⟨sv + 1, by go_num, ⟨by omega, by omega⟩, HD⟩, by simp [intOf]; omega⟩
                                              · have tj : decide (sv ≤ (n : Int)) = false := decide_eq_false hsn
                                                go_wp2_with fail
                                                exact ⟨⟨j + 1, rs2, t, q, X4.heap.size, by go_num, by omega, ht2, hrs2, by rw [HM3.out]; exact HD⟩, by simp [intOf]; omega⟩
                    · have tj : decide ((j : Int) < (nk : Int)) = false := by rw [decide_eq_false_iff_not]; omega
                      go_wp2_with fail
                      go_meet
                      exact ⟨rfl, Lib.hid H.out.a.bel⟩
              case rest =>
                as_aux_lemma =>
                  obtain ⟨rfl, HB⟩ := hcut
                  clear H8 HRK HNK
                  go_wp2_with fail
                  go_ret
                  exact ⟨rfl, HB.out⟩
end Go.Proofs.YtcpkkaimingnlaaGreatDoor
