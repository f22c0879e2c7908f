/-
  The document's Canon.
-/
import Derived.Test.YtcpkkaimingnlaaGreatDoorRno
import Derived.Test.YtcpkkaimingnlaaGreatDoorRrs
import Derived.Test.YtcpkkaimingnlaaGreatDoorMG
set_option linter.unusedVariables false
set_option linter.unusedSimpArgs false
namespace Go.Proofs.YtcpkkaimingnlaaGreatDoor
open Go.RowKit

def keepB (p : Bs) : Bool := !Lib.hasPrefix p bUtm
theorem join_snoc (c : UInt8) : ∀ (l : List Bs) (p : Bs), l ≠ [] → joinC c (l ++ [p]) = joinC c l ++ c :: p
  | [], _, h => absurd rfl h
  | [a], p, _ => rfl
  | a :: b :: r, p, _ => by
    have ih := join_snoc c (b :: r) p (by simp)
    show a ++ c :: joinC c ((b :: r) ++ [p]) = _
    rw [ih]
    show _ = (a ++ c :: joinC c (b :: r)) ++ c :: p
    simp
theorem join_sub (s : Bs) (l : List Bs) (h : l.Sublist (splitC 38 s)) : (joinC 38 l).length ≤ s.length := by
  by_cases h0 : l = []
  · rw [h0]; exact Nat.zero_le _
  · have h1 := join_len_sub 38 l h0
    have h2 := join_len_sub 38 (splitC 38 s) (splitC_ne 38 s)
    rw [join_split] at h2
    have h3 := sum_le_of (f := fun p => p.length + 1) l (splitC 38 s) h
    omega
theorem pre4 : ∀ (s : Bs), 4 ≤ s.length → Lib.hasPrefix s bUtm = (s.take 4 == bUtm)
  | a :: b :: c :: d :: r, _ => by
    rw [Bool.eq_iff_iff]
    simp [Lib.hasPrefix, List.isPrefixOf, bUtm]
    constructor <;> rintro ⟨h1, h2, h3, h4⟩ <;> exact ⟨h1.symm, h2.symm, h3.symm, h4.symm⟩
  | [], h => absurd h (by decide)
  | [_], h => absurd h (by rw [List.length_singleton]; omega)
  | [_, _], h => absurd h (by rw [List.length_cons, List.length_singleton]; omega)
  | [_, _, _], h => absurd h (by rw [List.length_cons, List.length_cons, List.length_singleton]; omega)
theorem pre4_no (s : Bs) (h : s.length < 4) : Lib.hasPrefix s bUtm = false := by
  cases hp : Lib.hasPrefix s bUtm with
  | false => rfl
  | true =>
    have h1 : bUtm <+: s := by
      unfold Lib.hasPrefix at hp
      exact List.isPrefixOf_iff_prefix.1 hp
    have h2 := h1.length_le
    have h3 : bUtm.length = 4 := rfl
    omega
theorem keep_snoc (P : List Bs) (k : Nat) (hk : k < P.length) : (P.take (k + 1)).filter keepB = (P.take k).filter keepB ++ (if keepB (P.getD k []) = true then [P.getD k []] else []) := by
  rw [List.take_succ_eq_append_getElem hk, List.filter_append]
  have e : P.getD k [] = P[k] := by simp [hk]
  rw [e]
  congr 1
  rw [List.filter_cons]
  split <;> rfl
/-- Three blocks: the argument's, the answer's, the link that is built. -/
structure CX (w W : World) (b : Link) (C : List Value) : Prop where
  b0 : Blk W w.heap.size 24 (lcs b)
  b1 : Blk W (w.heap.size + 1) 24 zcs
  b2 : Blk W (w.heap.size + 2) 24 C
  bel : Below w.heap.size w W
theorem CX.start (w : World) (b : Link) : CX w (((w.alloc (.cells (lcs b).toArray 24)).alloc (.cells zcs.toArray 24)).alloc (.cells zcs.toArray 24)) b zcs := by
  have h0 : Blk (w.alloc (.cells (lcs b).toArray 24)) w.heap.size 24 (lcs b) := by have := blk_new w 24 (lcs b).toArray; simpa using this
  have h1 : Blk ((w.alloc (.cells (lcs b).toArray 24)).alloc (.cells zcs.toArray 24)) (w.heap.size + 1) 24 zcs := by
    have := blk_new (w.alloc (.cells (lcs b).toArray 24)) 24 zcs.toArray; simpa using this
  have h2 : Blk (((w.alloc (.cells (lcs b).toArray 24)).alloc (.cells zcs.toArray 24)).alloc (.cells zcs.toArray 24)) (w.heap.size + 2) 24 zcs := by
    have := blk_new ((w.alloc (.cells (lcs b).toArray 24)).alloc (.cells zcs.toArray 24)) 24 zcs.toArray; simpa using this
  exact ⟨blk_alloc (blk_alloc h0 _) _, blk_alloc h1 _, h2, (((Below.refl _ w).alloc (Nat.le_refl _) _).alloc (by simp) _).alloc (by simp; omega) _⟩
theorem CX.call {w W W1 : World} {b : Link} {C : List Value} (h : CX w W b C) (hb : Below W.heap.size W W1) : CX w W1 b C :=
  ⟨blk_below h.b0 hb (blk_lt h.b0), blk_below h.b1 hb (blk_lt h.b1), blk_below h.b2 hb (blk_lt h.b2), h.bel.trans (hb.mono h.bel.size)⟩
theorem CX.set {w W W1 : World} {b : Link} {C C' : List Value} (h : CX w W b C) (hb : Blk W1 (w.heap.size + 2) 24 C') (ht : Turned W W1 (w.heap.size + 2)) : CX w W1 b C' :=
  ⟨ht.blk h.b0 (by omega), ht.blk h.b1 (by omega), hb, ht.below _ _ (by omega) h.bel⟩
theorem CX.cell {w W : World} {b : Link} {C : List Value} (h : CX w W b C) (i : Nat) (v : Value) (hv : (lcs b)[i]? = some v) : W.cell? ⟨w.heap.size, i, none⟩ = some v := (blk_cell h.b0 i).trans hv
theorem CX.mine {w W : World} {b : Link} {C : List Value} (h : CX w W b C) (i : Nat) (v : Value) (hv : C[i]? = some v) : W.cell? ⟨w.heap.size + 2, i, none⟩ = some v := (blk_cell h.b2 i).trans hv
set_option maxHeartbeats 16000000 in
set_option maxRecDepth 100000 in
theorem rcanon_any (b : Link) (w : World) (hB : sB b) :
    Calls Tryz.prog 22 #[.agg (lcs b).toArray] w fun e w' => e = .returned (.agg (lcs (canonR b)).toArray) ∧ Below w.heap.size w w' := by
  have H0 := Lib.hid (CX.start w b)
  have hl0 := Lib.hid (fun W => small_any b.scheme W (by have := hB.1; omega))
  have hl1 := Lib.hid (fun W => small_any b.host W (by have := hB.2.1; omega))
  have hn3 := Lib.hid (fun W => rnormal_any b.path W (by have := hB.2.2.2.1; omega))
  have hn4 := Lib.hid (fun W => rnormal_any b.query W (by have := hB.2.2.2.2.1; omega))
  have hnl3 := norm_len _ b.path (Nat.le_refl _)
  have hnl4 := norm_len _ b.query (Nat.le_refl _)
  have hb3 := hB.2.2.2.1
  have hb4 := hB.2.2.2.2.1
  have hd3 := Lib.hid (fun W => rdots_any (normP b.path) W (by omega))
  have hs4 := Lib.hid (fun W => rsplit_any (normP b.query) 38 W (by omega))
  have HE := Lib.hid (show canonR b = ⟨small b.scheme, small b.host, if (small b.scheme = bHttp ∧ b.port = 80) ∨ (small b.scheme = bHttps ∧ b.port = 443) then 0 else b.port, if dotsP (normP b.path) = [] then [47] else dotsP (normP b.path), queryP b.query, [], !(queryP b.query).isEmpty, false⟩ from rfl)
  obtain ⟨R, hR⟩ : ∃ R, R = canonR b := ⟨_, rfl⟩
  rw [← hR] at HE ⊢
  clear hR hB
  go_enter Tryz.func22, Tryz.ntmps22
  go_upto_region 2 with fail
  obtain ⟨W0, hW0⟩ : ∃ W0, W0 = ((w.alloc (.cells (lcs b).toArray 24)).alloc (.cells zcs.toArray 24)).alloc (.cells zcs.toArray 24) := ⟨_, rfl⟩
  rw [← hW0] at H0
  rw [show ((w.alloc (.cells (lcs b).toArray 24)).alloc (.cells #[.string ⟨#[]⟩, .string ⟨#[]⟩, .int .i64 0, .string ⟨#[]⟩, .string ⟨#[]⟩, .string ⟨#[]⟩, .bool false, .bool false] 24)).alloc (.cells #[.string ⟨#[]⟩, .string ⟨#[]⟩, .int .i64 0, .string ⟨#[]⟩, .string ⟨#[]⟩, .string ⟨#[]⟩, .bool false, .bool false] 24) = W0 from hW0.symm]
  clear hW0
  have c0 := H0.out.cell 0 (.string (bs b.scheme)) rfl
  go_upto_region 3 with (first | (go_at_call 48; refine (hl0.out _).mono ?_; rintro e w1 ⟨rfl, hb1⟩; have HA := Lib.hid (H0.out.call hb1); clear hb1) | ((with_reducible refine atS 10 9 ?_); refine wpList_storeC rfl 9 (.tmp 10) (.tmp 9) rfl (w.heap.size + 2) 0 (.string (bs (small b.scheme))) (by rfl) (by rfl) rfl info9 24 _ HA.out.b2 (by exact Nat.le_of_ble_eq_true rfl) ?_; intro W1 hb1 ht1; have HB := Lib.hid (HA.out.set hb1 ht1); clear hb1 ht1))
  clear c0 H0 HA
  have c1 := HB.out.cell 1 (.string (bs b.host)) rfl
  go_upto_region 4 with (first | (go_at_call 48; refine (hl1.out _).mono ?_; rintro e w2 ⟨rfl, hb1⟩; have HC := Lib.hid (HB.out.call hb1); clear hb1) | ((with_reducible refine atS 14 13 ?_); refine wpList_storeC rfl 9 (.tmp 14) (.tmp 13) rfl (w.heap.size + 2) 1 (.string (bs (small b.host))) (by rfl) (by rfl) rfl info9 24 _ HC.out.b2 (by exact Nat.le_of_ble_eq_true rfl) ?_; intro W2 hb1 ht1; have HCc := Lib.hid (HC.out.set hb1 ht1); clear hb1 ht1))
  have HD := (show Hid (CX w W2 b (lcs ⟨small b.scheme, small b.host, 0, [], [], [], false, false⟩)) from HCc)
  clear c1 HB HC HCc hl0 hl1
  obtain ⟨PT, hPT⟩ : ∃ PT : Nat, PT = if (small b.scheme = bHttp ∧ b.port = 80) ∨ (small b.scheme = bHttps ∧ b.port = 443) then 0 else b.port := ⟨_, rfl⟩
  rw [← hPT] at HE
  obtain ⟨Q, hQ⟩ : ∃ Q : Bool, Q = (!((small b.scheme == bHttp) && decide (b.port = 80)) && !((small b.scheme == bHttps) && decide (b.port = 443))) := ⟨_, rfl⟩
  have hPQ : PT = if Q = true then b.port else 0 := by
    rw [hPT, hQ]
    by_cases x1 : small b.scheme = bHttp <;> by_cases x2 : small b.scheme = bHttps <;> by_cases x3 : b.port = 80 <;> by_cases x4 : b.port = 443 <;> simp [x1, x2, x3, x4]
  have HPQ := Lib.hid hPQ
  have HQ := Lib.hid hQ
  clear hPQ hQ hPT
  have c2 := HD.out.cell 2 (.int .i64 ((b.port : Nat) : Int)) rfl
  have d0 := HD.out.mine 0 (.string (bs (small b.scheme))) rfl
  simp only [Act.put]
  go_cut [34] (fun v wx => v = .bool Q ∧ wx = W2)
  case first =>
    as_aux_lemma =>
      have q1 : ((bs (small b.scheme)).toList == [104, 116, 116, 112]) = (small b.scheme == bHttp) := eq_bs _ _
      have q2 : ((bs (small b.scheme)).toList == [104, 116, 116, 112, 115]) = (small b.scheme == bHttps) := eq_bs _ _
      have p1 : (((b.port : Nat) : Int) == 80) = decide (b.port = 80) := by rw [Bool.eq_iff_iff, beq_iff_eq, decide_eq_true_eq]; omega
      have p2 : (((b.port : Nat) : Int) == 443) = decide (b.port = 443) := by rw [Bool.eq_iff_iff, beq_iff_eq, decide_eq_true_eq]; omega
      have hq := HQ.out
      generalize (small b.scheme == bHttp) = x1 at *
      generalize (small b.scheme == bHttps) = x2 at *
      generalize decide (b.port = 80) = x3 at *
      generalize decide (b.port = 443) = x4 at *
      have HQ2 := Lib.hid hq
      clear hq HQ HPQ HE
      cases x1 <;> cases x2 <;> cases x3 <;> cases x4
      all_goals go_wp2_with fail
      all_goals go_meet
      all_goals exact ⟨by rw [HQ2.out]; rfl, rfl⟩
  case rest =>
    as_aux_lemma =>
      obtain ⟨rfl, rfl⟩ := hcut
      clear HQ d0
      go_upto_if 34 with fail
      go_cut [3] (fun v wx => v = .pointer (some ⟨w.heap.size + 2, 0, none⟩) ∧ Hid (CX w wx b (lcs ⟨small b.scheme, small b.host, PT, [], [], [], false, false⟩)))
      case first =>
        as_aux_lemma =>
          cases Q with
          | true =>
            go_wp2_with ((with_reducible refine atS 37 36 ?_); refine wpList_storeC rfl 3 (.tmp 37) (.tmp 36) rfl (w.heap.size + 2) 2 (.int .i64 ((b.port : Nat) : Int)) (by rfl) (by rfl) rfl info3 24 _ HD.out.b2 (by exact Nat.le_of_ble_eq_true rfl) ?_; intro W7 hb1 ht1; have HE1 := Lib.hid (HD.out.set hb1 ht1); clear hb1 ht1)
            go_meet
            exact ⟨rfl, by
              have e : PT = b.port := HPQ.out.trans (by simp)
              rw [e]; exact HE1⟩
          | false =>
            go_wp2_with fail
            go_meet
            exact ⟨rfl, by
              have e : PT = 0 := HPQ.out.trans (by simp)
              rw [e]; exact HD⟩
      case rest =>
        as_aux_lemma =>
          obtain ⟨rfl, HF⟩ := hcut
          clear HPQ c2 HD
          have c3 := HF.out.cell 3 (.string (bs b.path)) rfl
          go_upto_region 7 with (first | (go_at_call 62; refine (hn3.out _).mono ?_; rintro e w3 ⟨rfl, hb1⟩; have HG := Lib.hid (HF.out.call hb1); clear hb1) | (go_at_call 20; refine (hd3.out _).mono ?_; rintro e w4 ⟨rfl, hb1⟩; have HGG := Lib.hid (HG.out.call hb1); clear hb1) | ((with_reducible refine atS 42 41 ?_); refine wpList_storeC rfl 9 (.tmp 42) (.tmp 41) rfl (w.heap.size + 2) 3 (.string (bs (dotsP (normP b.path)))) (by rfl) (by rfl) rfl info9 24 _ HGG.out.b2 (by exact Nat.le_of_ble_eq_true rfl) ?_; intro W3 hb1 ht1; have HH0 := Lib.hid (HGG.out.set hb1 ht1); clear hb1 ht1))
          have HH := (show Hid (CX w W3 b (lcs ⟨small b.scheme, small b.host, PT, dotsP (normP b.path), [], [], false, false⟩)) from HH0)
          clear c3 HF HG HGG HH0 hn3 hd3
          obtain ⟨DP, hDP⟩ : ∃ DP, DP = dotsP (normP b.path) := ⟨_, rfl⟩
          rw [← hDP] at HH HE
          clear hDP
          have d3 := HH.out.mine 3 (.string (bs DP)) rfl
          have y1 : ((bs DP).toList == []) = DP.isEmpty := by rw [bs_toList]; cases DP <;> rfl
          have y5 : (bs DP).toList.isEmpty = DP.isEmpty := by rw [bs_toList]
          have hfi : (if DP = [] then [47] else DP) = if DP.isEmpty = true then [47] else DP := by cases DP <;> rfl
          obtain ⟨e, he⟩ : ∃ e, e = DP.isEmpty := ⟨_, rfl⟩
          rw [← he] at y1 y5 hfi
          have HFI := Lib.hid hfi
          clear he hfi
          simp only [Act.put]
          go_upto_if 45 with fail
          clear y1 y5
          go_cut [3] (fun v wx => v = .pointer (some ⟨w.heap.size + 2, 0, none⟩) ∧ Hid (CX w wx b (lcs ⟨small b.scheme, small b.host, PT, if DP = [] then [47] else DP, [], [], false, false⟩)))
          case first =>
            as_aux_lemma =>
              cases e with
              | true =>
                have HT1 := Lib.hid (show (if DP = [] then [47] else DP) = [47] from HFI.out.trans (if_pos rfl))
                clear HFI
                go_wp2_with ((with_reducible refine atC 46 ?_); refine wpList_storeC rfl 9 (.tmp 46) (.const (.string ⟨#[47]⟩)) rfl (w.heap.size + 2) 3 (.string ⟨#[47]⟩) (by rfl) (by rfl) rfl info9 24 _ HH.out.b2 (by exact Nat.le_of_ble_eq_true rfl) ?_; intro W4 hb1 ht1; have HI0 := Lib.hid (HH.out.set hb1 ht1); clear hb1 ht1)
                go_meet
                exact ⟨rfl, by rw [HT1.out]; exact HI0⟩
              | false =>
                have HT1 := Lib.hid (show (if DP = [] then [47] else DP) = DP from HFI.out.trans (if_neg (by decide)))
                clear HFI
                go_wp2_with fail
                go_meet
                exact ⟨rfl, by rw [HT1.out]; exact HH⟩
          case rest =>
            as_aux_lemma =>
              obtain ⟨rfl, HJ⟩ := hcut
              clear d3 HH
              obtain ⟨PP, hPP⟩ : ∃ PP, PP = if DP = [] then [47] else DP := ⟨_, rfl⟩
              rw [← hPP] at HJ HE
              clear hPP
              have c4 := HJ.out.cell 4 (.string (bs b.query)) rfl
              have hPne := splitC_ne 38 (normP b.query)
              have hsub := join_sub (normP b.query)
              have HQP := Lib.hid (show queryP b.query = joinC 38 ((splitC 38 (normP b.query)).filter keepB) from rfl)
              obtain ⟨P, hP⟩ : ∃ P, P = splitC 38 (normP b.query) := ⟨_, rfl⟩
              rw [← hP] at hs4 hPne hsub HQP
              have hPl : P.length ≤ 9000000 := by
                have := split_len 38 (normP b.query)
                rw [hP]; omega
              have hpc : ∀ k, k < P.length → (P.getD k []).length ≤ 100000 := by
                intro k hk
                have hm : P.getD k [] ∈ P := by simp [hk]
                have h1 := hsub [P.getD k []] (List.singleton_sublist.2 hm)
                have h2 : joinC 38 [P.getD k []] = P.getD k [] := rfl
                rw [h2] at h1
                omega
              have HSUB := Lib.hid hsub
              have HPC := Lib.hid hpc
              clear hP hsub hpc
              go_upto_region 11 with (first | (go_at_call 62; refine (hn4.out _).mono ?_; rintro e w6 ⟨rfl, hb1⟩; have HJJ := Lib.hid (HJ.out.call hb1); clear hb1) | (go_at_call 60; refine (hs4.out _).mono ?_; rintro e w5 ⟨vP, rfl, hoP, hb1⟩; obtain ⟨AP, cP, hvP, hcP, hcmP, hANP⟩ := hoP.form; subst hvP; have HoP := Lib.hid hoP; have HK := Lib.hid (HJJ.out.call hb1); have HB5 := Lib.hid hb1.size; clear hoP hb1))
              obtain ⟨gP, rfl, hgB, hgP⟩ := own_some HoP.out (List.length_pos_iff.2 hPne)
              have hcell0 : ∀ j, j < P.length → w5.cell? ⟨gP, j, none⟩ = some (.string (bs (P.getD j []))) := fun j hj => by
                rw [HoP.out.cellAt j (by omega), strs_at P j hj]
              have HC0 := Lib.hid hcell0
              have hgne : gP ≠ w.heap.size + 2 := by
                have h1 := blk_lt HJJ.out.b2
                omega
              have HGN := Lib.hid hgne
              clear hcell0 HoP HJ HJJ c4 hn4 hs4 hgne
              go_loopw [4, 52] (fun nn i wr => ∃ k : Nat, i = .int .i64 (k : Int) ∧ k ≤ P.length ∧ nn = .int .i64 ((((P.take k).filter keepB).length : Nat) : Int) ∧ Hid (wr.heap[gP]? = w5.heap[gP]?) ∧ Hid (CX w wr b (lcs ⟨small b.scheme, small b.host, PT, PP, joinC 38 ((P.take k).filter keepB), [], false, false⟩))) (fun _ i _ => P.length - (intOf i).toNat)
              case atStart => exact ⟨0, rfl, Nat.zero_le _, rfl, Lib.hid rfl, HK⟩
              case round =>
                as_aux_lemma =>
                  obtain ⟨k, rfl, hk, rfl, HG5, HL⟩ := hrel
                  clear HK
                  by_cases hkn : k < P.length
                  · have tj : decide ((k : Int) < (P.length : Int)) = true := by rw [decide_eq_true_eq]; omega
                    have hcell : wr.cell? ⟨gP, k, none⟩ = some (.string (bs (P.getD k []))) := (World.cell?_of_block (a := ⟨gP, k, none⟩) HG5.out).trans (HC0.out k hkn)
                    have hsn := keep_snoc P k hkn
                    have hkl : ((P.take k).filter keepB).length ≤ 9000000 := by
                      have := List.length_filter_le keepB (P.take k)
                      rw [List.length_take] at this
                      omega
                    have hjl := HSUB.out ((P.take k).filter keepB) ((List.filter_sublist ..).trans (List.take_sublist ..))
                    have hxl := HPC.out k hkn
                    have d4 := HL.out.mine 4 (.string (bs (joinC 38 ((P.take k).filter keepB)))) rfl
                    obtain ⟨KL, hKL⟩ : ∃ KL, KL = (P.take k).filter keepB := ⟨_, rfl⟩
                    rw [← hKL] at hsn hkl hjl d4 HL ⊢
                    clear hKL
                    generalize P.getD k [] = x at *
                    have HSN := Lib.hid hsn
                    have hzx : (bs x).size = x.length := bs_size x
                    have zJ : (bs (joinC 38 KL)).size ≤ 100000 := by rw [bs_size]; omega
                    clear hsn
                    obtain ⟨U, hU⟩ : ∃ U, U = Lib.hasPrefix x bUtm := ⟨_, rfl⟩
                    have HU := Lib.hid hU
                    clear hU
                    go_upto_region 13 with fail
                    go_cut [63] (fun v wx => v = .bool U ∧ wx = wr)
                    case first =>
                      by_cases h4 : 4 ≤ x.length
                      · have t1 : decide ((x.length : Int) ≥ 4) = true := decide_eq_true (by omega)
                        have t1b : decide ((4 : Int) ≤ (x.length : Int)) = true := decide_eq_true (by omega)
                        have t1c : decide (4 ≤ x.length) = true := decide_eq_true h4
                        have hto : ∀ W, (Instr.slice 9 (.string (bs x)) none (some (.int .i64 4)) none).run Tryz.prog W = .ok (.string (bs (x.take 4))) W := fun W => str_to x 4 h4 W
                        have q1 : ((bs (x.take 4)).toList == [117, 116, 109, 95]) = U := (eq_bs _ _).trans ((pre4 x h4).symm.trans HU.out.symm)
                        generalize x.take 4 = T4 at *
                        clear h4
                        cases U
                        all_goals go_wp2_with fail
                        all_goals go_meet
                        all_goals exact ⟨rfl, rfl⟩
                      · have t1 : decide ((x.length : Int) ≥ 4) = false := decide_eq_false (by omega)
                        have t1b : decide ((4 : Int) ≤ (x.length : Int)) = false := decide_eq_false (by omega)
                        have t1c : decide (4 ≤ x.length) = false := decide_eq_false h4
                        have hu := HU.out.trans (pre4_no x (by omega))
                        have HU2 := Lib.hid hu
                        clear h4 hu
                        go_wp2_with fail
                        go_meet
                        exact ⟨by rw [HU2.out], rfl⟩
                    case rest =>
                      obtain ⟨rfl, rfl⟩ := hcut
                      cases U with
                      | true =>
                        have hk2 : keepB x = false := by unfold keepB; rw [← HU.out]; rfl
                        have hK2 : (P.take (k + 1)).filter keepB = KL := by rw [HSN.out, if_neg (by rw [hk2]; decide), List.append_nil]
                        have HK2 := Lib.hid hK2
                        clear hk2 hK2 HSN
                        go_wp2_with fail
                        exact ⟨⟨k + 1, by go_num, by omega, by rw [HK2.out], HG5, by rw [HK2.out]; exact HL⟩, by simp [intOf]; omega⟩
                      | false =>
                        have hk2 : keepB x = true := by unfold keepB; rw [← HU.out]; rfl
                        have hK2 : (P.take (k + 1)).filter keepB = KL ++ [x] := by rw [HSN.out, if_pos hk2]
                        have HK2 := Lib.hid hK2
                        clear hk2 hK2 HSN HU
                        by_cases h0 : KL.length = 0
                        · have hKL0 : KL = [] := List.eq_nil_of_length_eq_zero h0
                          have t1 : decide ((KL.length : Int) > 0) = false := decide_eq_false (by omega)
                          have t1b : decide (0 < KL.length) = false := decide_eq_false (by omega)
                          have hj : bs (joinC 38 (KL ++ [x])) = bs (joinC 38 KL) ++ bs x := by rw [hKL0, bs_cat]; rfl
                          have HJN := Lib.hid hj
                          have hln : (KL ++ [x]).length = KL.length + 1 := by simp
                          have HLN := Lib.hid hln
                          have nz : ¬ 9223372036854775807 < (bs (joinC 38 KL)).size + x.length := by omega
                          clear hj hln hKL0 h0
                          go_wp2_with (((with_reducible refine atS 74 73 ?_); refine wpList_storeC rfl 9 (.tmp 74) (.tmp 73) rfl (w.heap.size + 2) 4 (.string (bs (joinC 38 KL) ++ bs x)) (by rfl) (by rfl) rfl info9 24 _ HL.out.b2 (by exact Nat.le_of_ble_eq_true rfl) ?_; intro W4 hb1 ht1; have HM0 := Lib.hid (HL.out.set hb1 ht1); have HT4 := Lib.hid ht1; have HM := (show Hid (CX w W4 b (lcs ⟨small b.scheme, small b.host, PT, PP, joinC 38 (KL ++ [x]), [], false, false⟩)) from Lib.hid (by have h := HM0.out; rw [← HJN.out] at h; exact h)); clear hb1 ht1))
                          exact ⟨⟨k + 1, by go_num, by omega, by rw [HK2.out, HLN.out]; go_num, Lib.hid ((HT4.out.far gP HGN.out).trans HG5.out), by rw [HK2.out]; exact HM⟩, by simp [intOf]; omega⟩
                        · have hKL0 : KL ≠ [] := fun h => h0 (by rw [h]; rfl)
                          have t1 : decide ((KL.length : Int) > 0) = true := decide_eq_true (by omega)
                          have t1b : decide (0 < KL.length) = true := decide_eq_true (by omega)
                          have hj : bs (joinC 38 (KL ++ [x])) = bs (joinC 38 KL) ++ bs [38] ++ bs x := by rw [join_snoc 38 KL x hKL0, bs_cat, bs_cat]; simp
                          have HJN := Lib.hid hj
                          have hln : (KL ++ [x]).length = KL.length + 1 := by simp
                          have HLN := Lib.hid hln
                          have nz : ¬ 9223372036854775807 < (bs (joinC 38 KL)).size + 1 := by omega
                          have nz2 : ¬ 9223372036854775807 < (bs (joinC 38 KL)).size + 1 + x.length := by omega
                          clear hj hln hKL0 h0
                          go_upto_region 16 with (((with_reducible refine atS 69 68 ?_); refine wpList_storeC rfl 9 (.tmp 69) (.tmp 68) rfl (w.heap.size + 2) 4 (.string (bs (joinC 38 KL) ++ bs [38])) (by rfl) (by rfl) rfl info9 24 _ HL.out.b2 (by exact Nat.le_of_ble_eq_true rfl) ?_; intro W5 hb1 ht1; have HM5 := Lib.hid (HL.out.set hb1 ht1); have HT5 := Lib.hid ht1; clear hb1 ht1))
                          have d5 := HM5.out.mine 4 (.string (bs (joinC 38 KL) ++ bs [38])) rfl
                          have d5 : W5.cell? ⟨w.heap.size + 2, 4, none⟩ = some (.string (bs (joinC 38 KL) ++ ⟨#[38]⟩)) := d5
                          clear d4
                          go_wp2_with (((with_reducible refine atS 74 73 ?_); refine wpList_storeC rfl 9 (.tmp 74) (.tmp 73) rfl (w.heap.size + 2) 4 (.string (bs (joinC 38 KL) ++ bs [38] ++ bs x)) (by rfl) (by rfl) rfl info9 24 _ HM5.out.b2 (by exact Nat.le_of_ble_eq_true rfl) ?_; intro W4 hb1 ht1; have HM0 := Lib.hid (HM5.out.set hb1 ht1); have HT4 := Lib.hid ht1; have HM := (show Hid (CX w W4 b (lcs ⟨small b.scheme, small b.host, PT, PP, joinC 38 (KL ++ [x]), [], false, false⟩)) from Lib.hid (by have h := HM0.out; rw [← HJN.out] at h; exact h)); clear hb1 ht1))
                          exact ⟨⟨k + 1, by go_num, by omega, by rw [HK2.out, HLN.out]; go_num, Lib.hid ((HT4.out.far gP HGN.out).trans ((HT5.out.far gP HGN.out).trans HG5.out)), by rw [HK2.out]; exact HM⟩, by simp [intOf]; omega⟩
                  · obtain rfl : k = P.length := by omega
                    have tj : decide ((P.length : Int) < (P.length : Int)) = false := by rw [decide_eq_false_iff_not]; omega
                    rw [List.take_length, ← HQP.out] at HL
                    obtain ⟨QQ, hQQ⟩ : ∃ QQ, QQ = queryP b.query := ⟨_, rfl⟩
                    rw [← hQQ] at HL HE
                    clear hQQ HQP HG5 HC0 HSUB HPC
                    have d4 := HL.out.mine 4 (.string (bs QQ)) rfl
                    have y1 : ((bs QQ).toList == []) = QQ.isEmpty := by rw [bs_toList]; cases QQ <;> rfl
                    have y2 : ((bs QQ).toList != []) = !QQ.isEmpty := by rw [bne, y1]
                    have y5 : (bs QQ).toList.isEmpty = QQ.isEmpty := by rw [bs_toList]
                    obtain ⟨e, he⟩ : ∃ e, e = QQ.isEmpty := ⟨_, rfl⟩
                    rw [← he] at y1 y2 y5 HE
                    clear he
                    cases e
                    all_goals go_wp2_with (first | ((with_reducible refine atS 81 80 ?_); refine wpList_storeC rfl 4 (.tmp 81) (.tmp 80) rfl (w.heap.size + 2) 6 _ (by rfl) (by rfl) rfl info4 24 _ HL.out.b2 (by exact Nat.le_of_ble_eq_true rfl) ?_; intro W6 hb1 ht1; have HN := Lib.hid (HL.out.set hb1 ht1); clear hb1 ht1) | ((with_reducible refine atD 82 ?_); refine wpList_loadL rfl (.tmp 3) rfl (w.heap.size + 2) (by rfl) _ HN.out.b2 rfl ?_) | ((with_reducible refine atS 2 82 ?_); refine wpList_storeL rfl (.tmp 2) (.tmp 82) rfl (w.heap.size + 1) _ (by rfl) (by rfl) _ HN.out.b1 rfl rfl rfl ?_; intro W9 hb9 ht9))
                    all_goals refine bodyPost_ret (v := _) (results_link1 Tryz.results22 _ _ (w.heap.size + 1) _ rfl hb9 rfl) rfl ?_
                    all_goals exact ⟨by rw [HE.out]; rfl, ht9.below _ _ (by omega) HN.out.bel⟩
end Go.Proofs.YtcpkkaimingnlaaGreatDoor
