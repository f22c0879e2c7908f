/-
  link.Canon.
-/
import Derived.Test.YtcpkkaimingnlaaGreatDoorLno
namespace Go.Proofs.YtcpkkaimingnlaaGreatDoor
open Go.RowKit

theorem PG.setCell {w W : World} {g2 g i : Nat} {c2 c : List Value} (h : PG w W g2 g c2 c) (v : Value) : PG w (W.setCell ⟨g, i, none⟩ v) g2 g c2 (c.set i v) :=
  ⟨blk_far h.b2 (p := ⟨g, i, none⟩) h.ne v, blk_set h.b i v, h.bel.setCell (p := ⟨g, i, none⟩) h.h1 v, h.ne, h.h2, h.h1⟩
theorem PG.facts {w W : World} {g2 g i : Nat} {c2 c : List Value} {v : Value} (h : PG w W g2 g c2 c) (hv : c[i]? = some v) : W.cell? ⟨g, i, none⟩ = some v ∧ W.frozen? ⟨g, i, none⟩ = false :=
  ⟨(blk_cell h.b i).trans hv, blk_frozen h.b i⟩
theorem norm_len : ∀ (n : Nat) (s : Bs), s.length ≤ n → (normP s).length ≤ s.length
  | _, [], _ => Nat.le_refl _
  | 0, c :: r, h => by simp at h
  | n + 1, c :: r, h => by
    rw [List.length_cons] at h
    by_cases hc : c = 37 ∧ hex2 r = true
    · obtain ⟨a, b, t, rfl, ha, hb⟩ := hex2_form hc.2
      rw [normP_cons, if_pos hc, List.length_append]
      have ih := norm_len n t (by simp only [List.length_cons] at h; omega)
      have hp : (pctT a b).length ≤ 3 := by
        rcases pctT_cases ha hb with ⟨_, e⟩ | ⟨_, e, _⟩
        · rw [e]; simp
        · rw [e]; simp
      simp only [List.length_cons]
      omega
    · rw [normP_miss c r hc, List.length_cons, List.length_cons]
      have ih := norm_len n r (by omega)
      omega
theorem query_len (q : Bs) : (queryP q).length ≤ q.length := by
  unfold queryP
  by_cases h : keptP q = []
  · rw [h]; exact Nat.zero_le _
  · have h1 := join_len_sub 38 (keptP q) h
    have h2 := join_len_sub 38 (splitC 38 (normP q)) (splitC_ne 38 _)
    rw [join_split] at h2
    have h3 := sum_le_of (f := fun p => p.length + 1) (keptP q) (splitC 38 (normP q)) (List.filter_sublist ..)
    have h4 := norm_len q.length q (Nat.le_refl _)
    omega
theorem bs_empty (l : Bs) : ((bs l).toList == []) = l.isEmpty ∧ (bs l).toList.isEmpty = l.isEmpty := by
  rw [bs_toList]; cases l <;> exact ⟨rfl, rfl⟩
set_option maxHeartbeats 16000000 in
set_option maxRecDepth 100000 in
theorem canon_any (b : Link) (w : World) (hT : Tabs w) (hB : sB b) :
    Calls Tryz.prog 21 #[.agg (lcs b).toArray] w fun e w' => e = .returned (.agg (lcs (canonP b)).toArray) ∧ Below w.heap.size w w' := by
  have hp0 := Lib.hid (rs_start w (lcs b))
  have HT := Lib.hid hT
  have hl0 := Lib.hid (fun W (h : PG w W (w.heap.size + 1) w.heap.size zcs (lcs b)) => lower_text b.scheme (by have := hB.1; omega) W (hT.below h.bel))
  have hl1 := Lib.hid (fun W (h : PG w W (w.heap.size + 1) w.heap.size zcs (lcs b)) => lower_text b.host (by have := hB.2.1; omega) W (hT.below h.bel))
  have hpl := hB.2.2.2.1
  have hql := hB.2.2.2.2.1
  have hpt := hB.2.2.1
  have e0 : (lcs b)[0]? = some (.string (bs b.scheme)) := rfl
  have e1 : (lcs b)[1]? = some (.string (bs b.host)) := rfl
  obtain ⟨C, hC⟩ : ∃ C, C = canonP b := ⟨_, rfl⟩
  rw [← hC]
  have HC := Lib.hid hC
  obtain ⟨x1, hx1⟩ : ∃ x : Link, x = { b with scheme := Lib.toLowerD b.scheme, host := Lib.toLowerD b.host } := ⟨_, rfl⟩
  have hs1 : ((lcs b).set 0 (.string (bs (Lib.toLowerD b.scheme)))).set 1 (.string (bs (Lib.toLowerD b.host))) = lcs x1 := by rw [hx1]; rfl
  obtain ⟨V, hV⟩ : ∃ V, V = lcs b := ⟨_, rfl⟩
  rw [← hV] at hp0 e0 e1 hl0 hl1 hs1 ⊢
  have E0 := Lib.hid e0; have E1 := Lib.hid e1; have HS1 := Lib.hid hs1; have HX1 := Lib.hid hx1
  have hx1p : x1.path = b.path ∧ x1.query = b.query ∧ x1.port = b.port ∧ x1.hasQ = b.hasQ := by rw [hx1]; exact ⟨rfl, rfl, rfl, rfl⟩
  rw [← hx1p.1] at hpl
  rw [← hx1p.2.1] at hql
  clear e0 e1 hV hT hB hs1 hx1 hC hpt
  have HX1p := Lib.hid hx1p
  clear hx1p
  generalize bs b.scheme = S0 at *
  generalize bs b.host = S1 at *
  generalize bs (Lib.toLowerD b.scheme) = L0 at *
  generalize bs (Lib.toLowerD b.host) = L1 at *
  go_enter Tryz.func21, Tryz.ntmps21
  go_upto_region 1 with fail
  obtain ⟨W0, hW0⟩ : ∃ W0, W0 = (w.alloc (.cells V.toArray 24)).alloc (.cells #[.string ⟨#[]⟩, .string ⟨#[]⟩, .int .i64 0, .string ⟨#[]⟩, .string ⟨#[]⟩, .string ⟨#[]⟩, .bool false, .bool false] 24) := ⟨_, rfl⟩
  rw [← hW0] at hp0
  try rw [← hW0]
  clear hW0
  go_cut [] (fun wx => PG w wx (w.heap.size + 1) w.heap.size zcs ((V.set 0 (.string L0)).set 1 (.string L1)))
  case first =>
    have hpd := hp0.out.drew
    obtain ⟨c0, f0⟩ := hpd.facts E0.out
    obtain ⟨c1, f1⟩ := hpd.facts E1.out
    go_region_with ((first | (go_at_call_of 39 (Value.string S0); refine (hl0.out _ ?_).mono ?_; assumption; rintro e w3 ⟨rfl, hb1⟩; have hp3 := PG.call (c2 := zcs) (c := V) (by assumption) hb1; obtain ⟨c03, f03⟩ := hp3.facts E0.out; obtain ⟨c13, f13⟩ := hp3.facts E1.out; clear hb1) | (go_at_call_of 39 (Value.string S1); refine (hl1.out _ ?_).mono ?_; assumption; rintro e w4 ⟨rfl, hb1⟩; have hp4 := PG.call (c2 := zcs) (c := V) (by assumption) hb1; obtain ⟨c04, f04⟩ := hp4.facts E0.out; obtain ⟨c14, f14⟩ := hp4.facts E1.out; clear hb1)))
    all_goals go_wp2_with fail
    all_goals go_meet
    all_goals exact PG.setCell (PG.setCell (by assumption) _) _
  case rest =>
    rw [HS1.out] at hcut
    have HP := Lib.hid hcut
    clear hcut hp0 hl0 hl1
    obtain ⟨c0, _⟩ := HP.out.facts (i := 0) (v := .string (bs x1.scheme)) rfl
    obtain ⟨c2, _⟩ := HP.out.facts (i := 2) (v := .int .i64 ((x1.port : Nat) : Int)) rfl
    obtain ⟨a1, ha1⟩ : ∃ a, a = (x1.scheme == bHttp) := ⟨_, rfl⟩
    obtain ⟨a2, ha2⟩ : ∃ a, a = (x1.scheme == bHttps) := ⟨_, rfl⟩
    obtain ⟨a3, ha3⟩ : ∃ a, a = decide (x1.port = 80) := ⟨_, rfl⟩
    obtain ⟨a4, ha4⟩ : ∃ a, a = decide (x1.port = 443) := ⟨_, rfl⟩
    have q1 : ((bs x1.scheme).toList == [104, 116, 116, 112]) = a1 := by rw [ha1]; exact eq_bs _ _
    have q2 : ((bs x1.scheme).toList == [104, 116, 116, 112, 115]) = a2 := by rw [ha2]; exact eq_bs _ _
    have q3 : (((x1.port : Nat) : Int) == 80) = a3 := by rw [ha3, Bool.eq_iff_iff, beq_iff_eq, decide_eq_true_eq]; omega
    have q4 : (((x1.port : Nat) : Int) == 443) = a4 := by rw [ha4, Bool.eq_iff_iff, beq_iff_eq, decide_eq_true_eq]; omega
    obtain ⟨x2, hx2⟩ : ∃ x : Link, x = { x1 with port := if ((a1 && a3) || (a2 && a4)) = true then 0 else x1.port } := ⟨_, rfl⟩
    have HA1 := Lib.hid ha1; have HA2 := Lib.hid ha2; have HA3 := Lib.hid ha3; have HA4 := Lib.hid ha4; have HX2 := Lib.hid hx2
    have hx2p : x2.path = x1.path ∧ x2.query = x1.query ∧ x2.hasQ = x1.hasQ := by rw [hx2]; exact ⟨rfl, rfl, rfl⟩
    rw [← hx2p.1] at hpl
    rw [← hx2p.2.1] at hql
    have HX2p := Lib.hid hx2p
    clear ha1 ha2 ha3 ha4 hx2 hx2p
    obtain ⟨BB, hBB⟩ : ∃ BB, BB = ((a1 && a3) || (a2 && a4)) := ⟨_, rfl⟩
    have HBB := Lib.hid hBB
    clear hBB
    go_upto_region 2 with fail
    go_cut [31] (fun v wx => v = .bool BB ∧ wx = wc)
    case first =>
      cases a1 <;> cases a3 <;> cases a2 <;> cases a4
      all_goals go_wp2_with fail
      all_goals go_meet
      all_goals exact ⟨by rw [HBB.out]; rfl, rfl⟩
    case rest =>
      obtain ⟨rfl, rfl⟩ := hcut
      clear c0 c2 q1 q2 q3 q4
      go_upto_if 31 with fail
      go_cut [] (fun wx => PG w wx (w.heap.size + 1) w.heap.size zcs (lcs x2))
      case first =>
        cases BB with
        | true =>
          have hl : (lcs x1).set 2 (.int .i64 0) = lcs x2 := by rw [HX2.out, ← HBB.out]; rfl
          have HL := Lib.hid hl
          clear hl
          go_wp2_with (refine wpList_storeC rfl 3 (.tmp 32) (.const (.int .i64 0)) rfl w.heap.size 2 (.int .i64 0) (by rfl) (by rfl) rfl info3 24 _ HP.out.b (by exact Nat.le_of_ble_eq_true rfl) ?_; intro X1 hb1 ht1; have HP2 := Lib.hid (HP.out.set hb1 ht1); clear hb1 ht1)
          go_meet
          rw [← HL.out]; exact HP2.out
        | false =>
          have hl : lcs x1 = lcs x2 := by rw [HX2.out, ← HBB.out]; rfl
          have HL := Lib.hid hl
          clear hl
          go_wp2_with fail
          go_meet
          rw [← HL.out]; exact HP.out
      case rest =>
        have HP2 := Lib.hid hcut
        clear hcut HP
        obtain ⟨c3, _⟩ := HP2.out.facts (i := 3) (v := .string (bs x2.path)) rfl
        have hnl := norm_len _ x2.path (Nat.le_refl _)
        have hnorm := Lib.hid (fun W (h : Below w.heap.size w W) => normal_any x2.path W (by omega))
        have hdot := Lib.hid (fun W (h : Below w.heap.size w W) => dots_any (normP x2.path) W (HT.out.below h) (by omega))
        obtain ⟨p3, hp3⟩ : ∃ p, p = dotsP (normP x2.path) := ⟨_, rfl⟩
        rw [← hp3] at hdot
        obtain ⟨x3, hx3⟩ : ∃ x : Link, x = { x2 with path := p3 } := ⟨_, rfl⟩
        have hs3 : (lcs x2).set 3 (.string (bs p3)) = lcs x3 := by rw [hx3]; rfl
        obtain ⟨x4, hx4⟩ : ∃ x : Link, x = { x2 with path := if p3 = [] then [47] else p3 } := ⟨_, rfl⟩
        have hx4p : x4.query = x2.query ∧ x4.hasQ = x2.hasQ := by rw [hx4]; exact ⟨rfl, rfl⟩
        rw [← hx4p.1] at hql
        have hx3p : x3.path = p3 := by rw [hx3]
        have HP3 := Lib.hid hp3; have HX3 := Lib.hid hx3; have HS3 := Lib.hid hs3; have HX4 := Lib.hid hx4; have HX4p := Lib.hid hx4p; have HX3p := Lib.hid hx3p
        clear hp3 hx3 hs3 hx4 hx4p hx3p hnl hpl
        go_upto_region 5 with (first | (go_at_call 61; refine (hnorm.out _ HP2.out.bel).mono ?_; rintro e w61 ⟨rfl, hb1⟩; have HPa := Lib.hid (HP2.out.call hb1); clear hb1) | (go_at_call 19; refine (hdot.out _ HPa.out.bel).mono ?_; rintro e w19 ⟨rfl, hb1⟩; have HPb := Lib.hid (HPa.out.call hb1); clear hb1) | (refine wpList_storeC rfl 9 (.tmp 37) (.tmp 36) rfl w.heap.size 3 (.string (bs p3)) (by rfl) (by rfl) rfl info9 24 _ HPb.out.b (by exact Nat.le_of_ble_eq_true rfl) ?_; intro X2 hb1 ht1; have HPc := Lib.hid (HPb.out.set hb1 ht1); clear hb1 ht1))
        have hpc := HPc.out
        rw [HS3.out] at hpc
        have HPd := Lib.hid hpc
        clear hpc HPa HPb HPc HP2 c3 hnorm hdot
        obtain ⟨c3, _⟩ := HPd.out.facts (i := 3) (v := .string (bs x3.path)) rfl
        obtain ⟨ub, hub⟩ : ∃ ub, ub = x3.path.isEmpty := ⟨_, rfl⟩
        have t1 := (bs_empty x3.path).1
        have t2 := (bs_empty x3.path).2
        rw [← hub] at t1 t2
        have HUB := Lib.hid hub
        clear hub
        go_upto_if 40 with fail
        clear t1 t2 c3
        go_cut [] (fun wx => PG w wx (w.heap.size + 1) w.heap.size zcs (lcs x4))
        case first =>
          cases ub with
          | true =>
            have hl : (lcs x3).set 3 (.string ⟨#[47]⟩) = lcs x4 := by
              have := List.isEmpty_iff.1 HUB.out.symm
              rw [HX3p.out] at this
              rw [HX4.out, HX3.out, if_pos this]; rfl
            have HL := Lib.hid hl
            clear hl
            go_wp2_with (refine wpList_storeC rfl 9 (.tmp 41) (.const (.string ⟨#[47]⟩)) rfl w.heap.size 3 (.string ⟨#[47]⟩) (by rfl) (by rfl) rfl info9 24 _ HPd.out.b (by exact Nat.le_of_ble_eq_true rfl) ?_; intro X3 hb1 ht1; have HPe := Lib.hid (HPd.out.set hb1 ht1); clear hb1 ht1)
            go_meet
            rw [← HL.out]; exact HPe.out
          | false =>
            have hl : lcs x3 = lcs x4 := by
              have hne : ¬ p3 = [] := fun e => by have := HUB.out; rw [HX3p.out, e] at this; cases this
              rw [HX4.out, HX3.out, if_neg hne]
            have HL := Lib.hid hl
            clear hl
            go_wp2_with fail
            go_meet
            rw [← HL.out]; exact HPd.out
        case rest =>
          have HP4 := Lib.hid hcut
          clear hcut HPd
          obtain ⟨c4, _⟩ := HP4.out.facts (i := 4) (v := .string (bs x4.query)) rfl
          have hnl := norm_len _ x4.query (Nat.le_refl _)
          have hnorm := Lib.hid (fun W (h : Below w.heap.size w W) => normal_any x4.query W (by omega))
          have hsp := Lib.hid (fun W (h : Below w.heap.size w W) => split_any (normP x4.query) 38 (by omega) W (HT.out.below h))
          have hql2 := query_len x4.query
          have hsl := split_len 38 (normP x4.query)
          have hk : keptP x4.query = (splitC 38 (normP x4.query)).filter (fun p => !Lib.hasPrefix p bUtm) := rfl
          have hj : queryP x4.query = joinC 38 (keptP x4.query) := rfl
          obtain ⟨q5, hq5⟩ : ∃ q, q = queryP x4.query := ⟨_, rfl⟩
          rw [← hq5] at hql2 hj
          have HQ5 := Lib.hid hq5
          obtain ⟨KK, hKK⟩ : ∃ K, K = keptP x4.query := ⟨_, rfl⟩
          rw [← hKK] at hk hj
          generalize splitC 38 (normP x4.query) = P at *
          obtain ⟨n, hn⟩ : ∃ n, n = P.length := ⟨_, rfl⟩
          rw [← hn] at hsp hsl
          have Hn := Lib.hid hn; have HK := Lib.hid hk; have HJ := Lib.hid hj
          clear hn hk hj hKK hq5
          go_upto_region 9 with (first | (go_at_call 61; refine (hnorm.out _ HP4.out.bel).mono ?_; rintro e w61 ⟨rfl, hb1⟩; have HPa := Lib.hid (HP4.out.call hb1); clear hb1) | (go_at_call 58; refine (hsp.out _ HPa.out.bel).mono ?_; rintro e w58 ⟨rfl, hw1⟩; have HW1 := Lib.hid hw1; clear hw1))
          have hb58 : Below w61.heap.size w61 w58 := by rw [HW1.out]; exact below_one _ _
          have hcel : Blk w58 w61.heap.size 9 (strs P) := by rw [HW1.out]; have := blk_new w61 9 (strs P).toArray; simpa using this
          have HPb := Lib.hid (HPa.out.call hb58)
          have HC58 := Lib.hid hcel
          have hlt58 : w61.heap.size < w58.heap.size := blk_lt hcel
          have hnb : n ≤ 100001 := by omega
          have hqb : q5.length ≤ 100000 := by omega
          clear hb58 hcel HW1 HPa HP4 c4 hnorm hsp hnl hql hql2 hsl
          go_loopw [3, 47] (fun v i wr => ∃ (j : Nat) (O : List Bs), i = .int .i64 (j : Int) ∧ j ≤ n ∧ O.length ≤ j ∧ Hid (KK = O ++ (P.drop j).filter (fun p => !Lib.hasPrefix p bUtm)) ∧ Hid (SOwn wr w58.heap.size v O) ∧ Hid (Below w58.heap.size w58 wr)) (fun _ i _ => n - (intOf i).toNat)
          case atStart => exact ⟨0, [], rfl, Nat.zero_le _, Nat.le_refl _, Lib.hid HK.out, Lib.hid SOwn.nil, Lib.hid (Below.refl _ _)⟩
          case round =>
            obtain ⟨j, O, rfl, hj, hO, HKj, HO, HB⟩ := hrel
            have hBs := HB.out.size
            by_cases hjn : j < n
            · have tj : decide ((j : Int) < (n : Int)) = true := by rw [decide_eq_true_eq]; omega
              have hjl : j < P.length := by rw [← Hn.out]; exact hjn
              have hdr : P.drop j = P.getD j [] :: P.drop (j + 1) := by rw [List.drop_eq_getElem_cons hjl]; simp [hjl]
              have hcell : wr.cell? ⟨w61.heap.size, j, none⟩ = some (.string (bs (P.getD j []))) := by
                rw [HB.out.cell (p := ⟨w61.heap.size, j, none⟩) hlt58, blk_cell HC58.out j, strs_at P j hjl]
              have hpre := Lib.hid (fun W => hasPrefix_any (P.getD j []) bUtm W)
              have hfil : KK = O ++ (if (!Lib.hasPrefix (P.getD j []) bUtm) = true then P.getD j [] :: (P.drop (j + 1)).filter (fun p => !Lib.hasPrefix p bUtm) else (P.drop (j + 1)).filter (fun p => !Lib.hasPrefix p bUtm)) := by
                rw [HKj.out, hdr, List.filter_cons]
              generalize P.getD j [] = x at *
              generalize Lib.hasPrefix x bUtm = hp at *
              have HFIL := Lib.hid hfil
              clear hfil hdr hjl
              obtain ⟨A, c, hv, hc, hcm, hAn⟩ := HO.out.form
              subst hv
              cases hp with
              | true =>
                have hk2 := Lib.hid (HFIL.out.trans (by rw [if_neg (by decide)]))
                go_wp2_with (go_at_call 53; refine (hpre.out _).mono ?_; rintro e w' ⟨rfl, rfl⟩)
                exact ⟨⟨j + 1, O, by go_num, by omega, by omega, hk2, HO, HB⟩, by simp [intOf]; omega⟩
              | false =>
                have hk2 : KK = (O ++ [x]) ++ (P.drop (j + 1)).filter (fun p => !Lib.hasPrefix p bUtm) := by rw [HFIL.out, if_pos (by decide), List.append_assoc]; rfl
                have HK2 := Lib.hid hk2
                clear hk2
                go_wp2_with (first | (go_at_call 53; refine (hpre.out _).mono ?_; rintro e w' ⟨rfl, rfl⟩) | (at_builtin; refine wpList_pushS rfl (.tmp 54) (.tmp 56) rfl w58.heap.size hBs O _ (by rfl) HO.out x (by rfl) (by omega) ?_; intro A2 c2 w2 ho2 hb2; have HO2 := Lib.hid ho2; have HB2 := Lib.hid (HB.out.trans hb2); clear ho2 hb2))
                exact ⟨⟨j + 1, O ++ [x], by go_num, by omega, by rw [List.length_append]; exact Nat.succ_le_succ hO, HK2, HO2, HB2⟩, by simp [intOf]; omega⟩
            · obtain rfl : j = n := by omega
              have tj : decide ((j : Int) < (j : Int)) = false := by rw [decide_eq_false_iff_not]; omega
              have hKO : KK = O := by rw [HKj.out, List.drop_of_length_le (by rw [← Hn.out]; exact Nat.le_refl _)]; simp
              subst hKO
              have HPc := Lib.hid (HPb.out.call HB.out)
              have hjo := Lib.hid (join_any KK 38 _ w58.heap.size wr HO.out (by omega) (by rw [← HJ.out]; omega))
              rw [← HJ.out] at hjo
              obtain ⟨x5, hx5⟩ : ∃ x : Link, x = { x4 with query := q5 } := ⟨_, rfl⟩
              have hs5 : (lcs x4).set 4 (.string (bs q5)) = lcs x5 := by rw [hx5]; rfl
              have HX5 := Lib.hid hx5; have HS5 := Lib.hid hs5
              have hx5p : x5.query = q5 ∧ x5.hasQ = x4.hasQ := by rw [hx5]; exact ⟨rfl, rfl⟩
              have HX5p := Lib.hid hx5p
              clear hjn hx5 hs5 hx5p HPb HKj
              go_upto_region 15 with (first | (go_at_call 59; refine hjo.out.mono ?_; rintro e w59 ⟨rfl, hb1⟩; have HPd := Lib.hid (HPc.out.call hb1); clear hb1) | (refine wpList_storeC rfl 9 (.tmp 61) (.tmp 60) rfl w.heap.size 4 (.string (bs q5)) (by rfl) (by rfl) rfl info9 24 _ HPd.out.b (by exact Nat.le_of_ble_eq_true rfl) ?_; intro X4 hb1 ht1; have HPe := Lib.hid (HPd.out.set hb1 ht1); clear hb1 ht1))
              have hpe := HPe.out
              rw [HS5.out] at hpe
              have HP5 := Lib.hid hpe
              clear hpe HPc HPd HPe hjo HO HB
              obtain ⟨c6, _⟩ := HP5.out.facts (i := 6) (v := .bool x5.hasQ) rfl
              obtain ⟨c4, _⟩ := HP5.out.facts (i := 4) (v := .string (bs x5.query)) rfl
              obtain ⟨ub, hub⟩ : ∃ ub, ub = x5.query.isEmpty := ⟨_, rfl⟩
              have t1 := (bs_empty x5.query).1
              have t2 := (bs_empty x5.query).2
              rw [← hub] at t1 t2
              have t3 : ((bs x5.query).toList != []) = !ub := by rw [bne, t1]
              obtain ⟨hq, hhq⟩ : ∃ hq, hq = x5.hasQ := ⟨_, rfl⟩
              rw [← hhq] at c6
              obtain ⟨x6, hx6⟩ : ∃ x : Link, x = { x5 with hasQ := hq && !ub } := ⟨_, rfl⟩
              have hs6 : (lcs x5).set 6 (.bool (hq && !ub)) = lcs x6 := by rw [hx6]; rfl
              obtain ⟨x7, hx7⟩ : ∃ x : Link, x = { x6 with query := if (hq && !ub) = true then x6.query else [] } := ⟨_, rfl⟩
              obtain ⟨x8, hx8⟩ : ∃ x : Link, x = { x7 with frag := [], hasF := false } := ⟨_, rfl⟩
              have hs8 : ((lcs x7).set 5 (.string ⟨#[]⟩)).set 7 (.bool false) = lcs x8 := by rw [hx8]; rfl
              obtain ⟨HH, hHH⟩ : ∃ HH, HH = (hq && !ub) := ⟨_, rfl⟩
              rw [← hHH] at hs6
              have HUB := Lib.hid hub; have HHQ := Lib.hid hhq; have HX6 := Lib.hid hx6; have HS6 := Lib.hid hs6; have HX7 := Lib.hid hx7; have HX8 := Lib.hid hx8; have HS8 := Lib.hid hs8; have HHH := Lib.hid hHH
              have hfin : x8 = C := by
                rw [HC.out, HX8.out, HX7.out, HX6.out]
                simp only [HHQ.out, HUB.out, HX5.out, HX4.out, HP3.out, HX2.out, HA1.out, HA2.out, HA3.out, HA4.out, HQ5.out, HX1.out]
                unfold canonP
                simp only [Bool.or_eq_true, Bool.and_eq_true, beq_iff_eq, decide_eq_true_eq]
              have HFIN := Lib.hid hfin
              clear hub hhq hx6 hs6 hx7 hx8 hs8 hHH hfin
              have hx6p : x6.hasQ = HH := by rw [HX6.out, HHH.out]
              have hx7e : x7 = { x6 with query := if HH = true then x6.query else [] } := by rw [HX7.out, HHH.out]
              have HX6p := Lib.hid hx6p; have HX7e := Lib.hid hx7e
              clear hx6p hx7e
              simp only [Act.put]
              go_cut [] (fun wx => PG w wx (w.heap.size + 1) w.heap.size zcs (lcs x6))
              case first =>
                cases hq with
                | false =>
                  have hl := Lib.hid ((show (lcs x5).set 6 (.bool false) = (lcs x5).set 6 (.bool HH) by rw [HHH.out]; rfl).trans HS6.out)
                  go_wp2_with (refine wpList_storeC rfl 4 (.tmp 69) (.tmp 68) rfl w.heap.size 6 (.bool false) (by rfl) (by rfl) rfl info4 24 _ HP5.out.b (by exact Nat.le_of_ble_eq_true rfl) ?_; intro X5 hb1 ht1; have HPf := Lib.hid (HP5.out.set hb1 ht1); clear hb1 ht1)
                  go_meet
                  rw [← hl.out]; exact HPf.out
                | true =>
                  cases ub with
                  | true =>
                    have hl := Lib.hid ((show (lcs x5).set 6 (.bool false) = (lcs x5).set 6 (.bool HH) by rw [HHH.out]; rfl).trans HS6.out)
                    go_wp2_with (refine wpList_storeC rfl 4 (.tmp 69) (.tmp 68) rfl w.heap.size 6 (.bool false) (by rfl) (by rfl) rfl info4 24 _ HP5.out.b (by exact Nat.le_of_ble_eq_true rfl) ?_; intro X5 hb1 ht1; have HPf := Lib.hid (HP5.out.set hb1 ht1); clear hb1 ht1)
                    go_meet
                    rw [← hl.out]; exact HPf.out
                  | false =>
                    have hl := Lib.hid ((show (lcs x5).set 6 (.bool true) = (lcs x5).set 6 (.bool HH) by rw [HHH.out]; rfl).trans HS6.out)
                    go_wp2_with (refine wpList_storeC rfl 4 (.tmp 69) (.tmp 68) rfl w.heap.size 6 (.bool true) (by rfl) (by rfl) rfl info4 24 _ HP5.out.b (by exact Nat.le_of_ble_eq_true rfl) ?_; intro X5 hb1 ht1; have HPf := Lib.hid (HP5.out.set hb1 ht1); clear hb1 ht1)
                    go_meet
                    rw [← hl.out]; exact HPf.out
              case rest =>
                have HP6 := Lib.hid hcut
                clear hcut c6 c4 t1 t2 t3 HP5
                obtain ⟨c6, _⟩ := HP6.out.facts (i := 6) (v := .bool x6.hasQ) rfl
                rw [HX6p.out] at c6
                go_upto_if 72 with fail
                clear c6
                go_cut [] (fun wx => PG w wx (w.heap.size + 1) w.heap.size zcs (lcs x7))
                case first =>
                  cases HH with
                  | true =>
                    have hl : lcs x6 = lcs x7 := by rw [HX7e.out, if_pos rfl]
                    have HL := Lib.hid hl
                    clear hl
                    go_wp2_with fail
                    go_meet
                    rw [← HL.out]; exact HP6.out
                  | false =>
                    have hl : (lcs x6).set 4 (.string ⟨#[]⟩) = lcs x7 := by rw [HX7e.out, if_neg (by decide)]; rfl
                    have HL := Lib.hid hl
                    clear hl
                    go_wp2_with (refine wpList_storeC rfl 9 (.tmp 73) (.const (.string ⟨#[]⟩)) rfl w.heap.size 4 (.string ⟨#[]⟩) (by rfl) (by rfl) rfl info9 24 _ HP6.out.b (by exact Nat.le_of_ble_eq_true rfl) ?_; intro X6 hb1 ht1; have HPg := Lib.hid (HP6.out.set hb1 ht1); clear hb1 ht1)
                    go_meet
                    rw [← HL.out]; exact HPg.out
                case rest =>
                  have HP7 := Lib.hid hcut
                  clear hcut HP6
                  have hlen : (((lcs x7).set 5 (.string ⟨#[]⟩)).set 7 (.bool false)).length = 8 := rfl
                  have hone : ((((lcs x7).set 5 (.string ⟨#[]⟩)).set 7 (.bool false)).toArray.toList.all (·.oneCell') = true) := rfl
                  have HLN := Lib.hid hlen; have HON := Lib.hid hone
                  clear hlen hone
                  go_upto_region 19 with (first | (refine wpList_storeC rfl 9 (.tmp 74) (.const (.string ⟨#[]⟩)) rfl w.heap.size 5 (.string ⟨#[]⟩) (by rfl) (by rfl) rfl info9 24 _ HP7.out.b (by exact Nat.le_of_ble_eq_true rfl) ?_; intro X7 hb1 ht1; have HPh := Lib.hid (HP7.out.set hb1 ht1); clear hb1 ht1) | (refine wpList_storeC rfl 4 (.tmp 75) (.const (.bool false)) rfl w.heap.size 7 (.bool false) (by rfl) (by rfl) rfl info4 24 _ HPh.out.b (by exact Nat.le_of_ble_eq_true rfl) ?_; intro X8 hb1 ht1; have HPi := Lib.hid (HPh.out.set hb1 ht1); clear hb1 ht1))
                  have hpi := HPi.out
                  rw [HS8.out] at hpi HLN HON
                  rw [HFIN.out] at hpi HLN HON
                  have HPj := Lib.hid hpi
                  clear hpi HPi HPh HP7
                  go_wp2_with (first | (refine wpList_loadL rfl (.tmp 1) rfl w.heap.size (by rfl) _ HPj.out.b HLN.out ?_) | (refine wpList_storeL rfl (.tmp 2) (.tmp 76) rfl (w.heap.size + 1) (lcs C).toArray (by rfl) (by rfl) _ HPj.out.b2 (by rw [List.size_toArray]; exact HLN.out) rfl HON.out ?_; intro W9 hb9 ht9))
                  refine bodyPost_ret (v := _) (results_link1 Tryz.results21 _ _ (w.heap.size + 1) _ rfl hb9 HLN.out) rfl ?_
                  exact ⟨rfl, ht9.below _ _ (Nat.le_succ _) HPj.out.bel⟩
end Go.Proofs.YtcpkkaimingnlaaGreatDoor
