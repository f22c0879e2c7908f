/-
  The law LinkHosts, walked.
-/
import Derived.Test.YtcpkkaimingnlaaGreatDoorLga
namespace Go.Proofs.YtcpkkaimingnlaaGreatDoor
open Go.RowKit

theorem LK.drew {w W : World} {L : List (Nat × Link)} (h : LK w W L) : LK w W.drew L := ⟨h.bel.drew, fun p hp => ⟨blk_drew (h.all p hp).1, (h.all p hp).2⟩⟩
theorem LK.drewN {w W : World} {L : List (Nat × Link)} (h : LK w W L) (n : Nat) : LK w (W.drewN n) L := ⟨below_drewN h.bel n, fun p hp => ⟨blk_drewN (h.all p hp).1 n, (h.all p hp).2⟩⟩
theorem stay {W W1 : World} {g i : Nat} {v : Value} (hlt : g < W.heap.size) (h : Below W.heap.size W W1) (c : W.cell? ⟨g, i, none⟩ = some v) : W1.cell? ⟨g, i, none⟩ = some v :=
  (h.cell (p := ⟨g, i, none⟩) hlt).trans c
set_option maxHeartbeats 8000000 in
set_option maxRecDepth 100000 in
theorem hosts_a (a s : Bs) (w : World) (hT : Tabs w) (ha : a.length ≤ 9223372036854775807) (hs : s.length ≤ 9223372036854775807) (h1 : parseP a = none) :
    Calls Tryz.prog 8 #[.string (bs a), .string (bs s)] w fun e w' => e = .returned (.bool true) ∧ Below w.heap.size w w' := by
  have HT := Lib.hid hT
  clear hT
  have hz := bs_size s
  have hfi := Lib.hid (first_any w HT.out)
  have hpa := Lib.hid (fun W (h : Below w.heap.size w W) => parse_val a W (HT.out.below h) ha)
  rw [err_none h1] at hpa
  generalize (parseP a).getD Link.zero = X at *
  clear h1 ha hs
  generalize bs a = SA at *
  generalize bs s = SS at *
  have H0 := Lib.hid (LK.start w)
  go_enter Tryz.func8, Tryz.ntmps8
  go_upto_region 4 with (first | (go_at_call 13; refine hfi.out.mono ?_; rintro e w0 ⟨rfl, hb1⟩; have HA := Lib.hid (H0.out.call hb1); clear hb1) | (go_at_call 14; refine (hpa.out _ HA.out.bel).mono ?_; rintro e w1 ⟨rfl, hb1⟩; have HB := Lib.hid (HA.out.call hb1); clear hb1) | ((with_reducible refine atS 5 16 ?_); refine wpList_storeL rfl (.tmp 5) (.tmp 16) rfl w1.heap.size (lcs X).toArray (by rfl) (by rfl) zcs (new_zcs w1) rfl rfl rfl ?_; intro X1 hb1 ht1; have HC := Lib.hid (HB.out.box X rfl hb1 ht1); clear hb1 ht1))
  go_wp2_with fail
  go_ret
  exact ⟨rfl, HC.out.bel⟩
set_option maxHeartbeats 8000000 in
set_option maxRecDepth 100000 in
theorem hosts_s (a s : Bs) (w : World) (hT : Tabs w) (ha : a.length ≤ 9223372036854775807) (hs : s.length ≤ 9223372036854775807) (X : Link) (h1 : parseP a = some X) (h3 : 3000 < s.length) :
    Calls Tryz.prog 8 #[.string (bs a), .string (bs s)] w fun e w' => e = .returned (.bool true) ∧ Below w.heap.size w w' := by
  have HT := Lib.hid hT
  clear hT
  have hz := bs_size s
  have hfi := Lib.hid (first_any w HT.out)
  have hpa := Lib.hid (fun W (h : Below w.heap.size w W) => parse_val a W (HT.out.below h) ha)
  rw [h1] at hpa
  have hpa : Hid (∀ W, Below w.heap.size w W → Calls Tryz.prog 14 #[.string (bs a)] W fun e w' => e = .returned (.tuple #[.agg (lcs X).toArray, .int .i64 0]) ∧ Below W.heap.size W w') := hpa
  clear h1 ha
  have t3 : decide ((s.length : Int) > 3000) = true := decide_eq_true (by omega)
  generalize bs a = SA at *
  generalize bs s = SS at *
  have H0 := Lib.hid (LK.start w)
  go_enter Tryz.func8, Tryz.ntmps8
  go_upto_region 4 with (first | (go_at_call 13; refine hfi.out.mono ?_; rintro e w0 ⟨rfl, hb1⟩; have HA := Lib.hid (H0.out.call hb1); clear hb1) | (go_at_call 14; refine (hpa.out _ HA.out.bel).mono ?_; rintro e w1 ⟨rfl, hb1⟩; have HB := Lib.hid (HA.out.call hb1); clear hb1) | ((with_reducible refine atS 5 16 ?_); refine wpList_storeL rfl (.tmp 5) (.tmp 16) rfl w1.heap.size (lcs X).toArray (by rfl) (by rfl) zcs (new_zcs w1) rfl rfl rfl ?_; intro X1 hb1 ht1; have HC := Lib.hid (HB.out.box X rfl hb1 ht1); clear hb1 ht1))
  go_wp2_with fail
  go_ret
  exact ⟨rfl, HC.out.bel⟩
set_option maxHeartbeats 8000000 in
set_option maxRecDepth 100000 in
theorem hosts_x (a s : Bs) (w : World) (hT : Tabs w) (ha : a.length ≤ 9223372036854775807) (hs : s.length ≤ 9223372036854775807) (X : Link) (h1 : parseP a = some X) (h3 : s.length ≤ 3000) :
    Calls Tryz.prog 8 #[.string (bs a), .string (bs s)] w fun e w' => e = .returned (.bool true) ∧ Below w.heap.size w w' := by
  have HT := Lib.hid hT
  clear hT
  have hz := bs_size s
  have hfi := Lib.hid (first_any w HT.out)
  have hpa := Lib.hid (fun W (h : Below w.heap.size w W) => parse_val a W (HT.out.below h) ha)
  rw [h1] at hpa
  have hpa : Hid (∀ W, Below w.heap.size w W → Calls Tryz.prog 14 #[.string (bs a)] W fun e w' => e = .returned (.tuple #[.agg (lcs X).toArray, .int .i64 0]) ∧ Below W.heap.size W w') := hpa
  obtain ⟨hX, hla⟩ := sB_parse h1
  obtain ⟨_, _, hsch, hwf⟩ := (parseP_iff a X).1 h1
  have t3 : decide ((s.length : Int) > 3000) = false := decide_eq_false (by omega)
  have hr1 := Lib.hid (fun W (h : Below w.heap.size w W) => resolve_any X (47 :: s) W (HT.out.below h) hX (by simp only [List.length_cons]; omega))
  have hr2 := Lib.hid (fun W (h : Below w.heap.size w W) => resolve_any X (46 :: 47 :: s) W (HT.out.below h) hX (by simp only [List.length_cons]; omega))
  have e1 : bs (47 :: s) = bs [47] ++ bs s := by rw [bs_cat]; rfl
  have e2 : bs (46 :: 47 :: s) = bs [46, 47] ++ bs s := by rw [bs_cat]; rfl
  rw [e1] at hr1
  rw [e2] at hr2
  have hq1 : ∀ Y, resolveP X (47 :: s) = some Y → s.head? ≠ some 47 → Y.scheme = X.scheme ∧ Y.host = X.host ∧ Y.port = X.port ∧ dotsP Y.path = Y.path := fun Y h hh => hosts_slash hsch hwf hh h
  have hq2 : ∀ Y, resolveP X (46 :: 47 :: s) = some Y → Y.scheme = X.scheme ∧ Y.host = X.host ∧ Y.port = X.port ∧ dotsP Y.path = Y.path := fun Y h => hosts_dot hsch hwf h
  have hl1 : ∀ Y, resolveP X (47 :: s) = some Y → Y.path.length ≤ 100000 := fun Y h => (sB_parse (resolve_back h)).1.2.2.2.1
  have hl2 : ∀ Y, resolveP X (46 :: 47 :: s) = some Y → Y.path.length ≤ 100000 := fun Y h => (sB_parse (resolve_back h)).1.2.2.2.1
  obtain ⟨R1, hR1⟩ : ∃ R, R = resolveP X (47 :: s) := ⟨_, rfl⟩
  obtain ⟨R2, hR2⟩ : ∃ R, R = resolveP X (46 :: 47 :: s) := ⟨_, rfl⟩
  rw [← hR1] at hr1 hq1 hl1
  rw [← hR2] at hr2 hq2 hl2
  have HQ1 := Lib.hid hq1; have HQ2 := Lib.hid hq2; have HL1 := Lib.hid hl1; have HL2 := Lib.hid hl2
  clear hR1 hR2 hq1 hq2 hl1 hl2 e1 e2 h1 ha hs hla hsch hwf hX
  have zs : (bs s).size ≤ 3000 := by rw [hz]; exact h3
  obtain ⟨Y, hY⟩ : ∃ Y, Y = R1.getD Link.zero := ⟨_, rfl⟩
  obtain ⟨Z, hZ⟩ : ∃ Z, Z = R2.getD Link.zero := ⟨_, rfl⟩
  obtain ⟨E1, hE1⟩ : ∃ E, E = errI R1 := ⟨_, rfl⟩
  obtain ⟨E2, hE2⟩ : ∃ E, E = errI R2 := ⟨_, rfl⟩
  rw [← hY, ← hE1] at hr1
  rw [← hZ, ← hE2] at hr2
  have HY := Lib.hid hY; have HZ := Lib.hid hZ; have HE1 := Lib.hid hE1; have HE2 := Lib.hid hE2
  clear hY hZ hE1 hE2
  have hx0 : ∀ (h : 0 < s.length) W, (Instr.index 9 (.string (bs s)) (.int .i64 0)).run Tryz.prog W = .ok (.int .u8 (((s.getD 0 0).toNat : Nat) : Int)) W := fun h W => str_byte s 0 h W
  have HX0 := Lib.hid hx0
  clear hx0
  generalize bs a = SA at *
  generalize hSS : bs s = SS at *
  have HSS := Lib.hid hSS
  clear hSS
  have H0 := Lib.hid (LK.start w)
  go_enter Tryz.func8, Tryz.ntmps8
  go_upto_region 4 with (first | (go_at_call 13; refine hfi.out.mono ?_; rintro e w0 ⟨rfl, hb1⟩; have HA := Lib.hid (H0.out.call hb1); clear hb1) | (go_at_call 14; refine (hpa.out _ HA.out.bel).mono ?_; rintro e w1 ⟨rfl, hb1⟩; have HB := Lib.hid (HA.out.call hb1); clear hb1) | ((with_reducible refine atS 5 16 ?_); refine wpList_storeL rfl (.tmp 5) (.tmp 16) rfl w1.heap.size (lcs X).toArray (by rfl) (by rfl) zcs (new_zcs w1) rfl rfl rfl ?_; intro X1 hb1 ht1; have HC := Lib.hid (HB.out.box X rfl hb1 ht1); clear hb1 ht1))
  go_upto_region 7 with (first | ((with_reducible refine atD 26 ?_); refine wpList_loadW (by rfl) (.tmp 5) rfl w1.heap.size (by rfl) X (HC.out.at_ (.head _)) ?_) | (go_at_call 17; refine (hr1.out _ HC.out.bel).mono ?_; rintro e w2 ⟨rfl, hb1⟩; have HD := Lib.hid (HC.out.call hb1); clear hb1) | ((with_reducible refine atS 7 30 ?_); refine wpList_storeL rfl (.tmp 7) (.tmp 30) rfl w2.heap.size (lcs Y).toArray (by rfl) (by rfl) zcs (new_zcs w2) rfl rfl rfl ?_; intro X2 hb1 ht1; have HE := Lib.hid (HD.out.box Y rfl hb1 ht1); clear hb1 ht1))
  clear hr1 HA HB HC
  go_upto_region 8 with (first | ((with_reducible refine atD 33 ?_); refine wpList_loadW (by rfl) (.tmp 5) rfl w1.heap.size (by rfl) X (HE.out.at_ (.tail _ (.head _))) ?_) | (go_at_call 17; refine (hr2.out _ HE.out.bel).mono ?_; rintro e w3 ⟨rfl, hb1⟩; have HF := Lib.hid (HE.out.call hb1); clear hb1) | ((with_reducible refine atS 9 37 ?_); refine wpList_storeL rfl (.tmp 9) (.tmp 37) rfl w3.heap.size (lcs Z).toArray (by rfl) (by rfl) zcs (new_zcs w3) rfl rfl rfl ?_; intro X3 hb1 ht1; have HG := Lib.hid (HF.out.box Z rfl hb1 ht1); clear hb1 ht1))
  clear hr2 HD HE HF
  have HBel := Lib.hid HG.out.bel
  have HLX := Lib.hid (blk_lt (HG.out.at_ (.tail _ (.tail _ (.head _)))))
  go_cut [79] (fun v wx => v = .bool false ∧ LK w wx [(w3.heap.size, Z), (w2.heap.size, Y), (w1.heap.size, X)])
  case first =>
    cases hR : R1 with
    | none =>
      have t1 : (E1 == 0) = false := by rw [HE1.out, hR]; rfl
      clear hR zs
      go_quiet (fail)
      go_wp2_with fail
      go_meet
      exact ⟨rfl, HG.out.drewN _⟩
    | some Y' =>
      have t1 : (E1 == 0) = true := by rw [HE1.out, hR]; rfl
      have hYY : Y = Y' := by rw [HY.out, hR]; rfl
      have hl := HL1.out Y' hR
      rw [← hYY] at hl
      by_cases h0 : s.length = 0
      · have hs0 : s = [] := List.eq_nil_of_length_eq_zero h0
        have hq := HQ1.out Y' hR (by rw [hs0]; simp)
        rw [← hYY] at hq
        have t2 : ((s.length : Int) == 0) = true := by rw [h0]; rfl
        have c0 := HG.out.facts (.tail _ (.tail _ (.head _))) (i := 0) (v := .string (bs X.scheme)) rfl
        have c1 := HG.out.facts (.tail _ (.tail _ (.head _))) (i := 1) (v := .string (bs X.host)) rfl
        have c2 := HG.out.facts (.tail _ (.tail _ (.head _))) (i := 2) (v := .int .i64 ((X.port : Nat) : Int)) rfl
        have d0 := HG.out.facts (.tail _ (.head _)) (i := 0) (v := .string (bs Y.scheme)) rfl
        have d1 := HG.out.facts (.tail _ (.head _)) (i := 1) (v := .string (bs Y.host)) rfl
        have d2 := HG.out.facts (.tail _ (.head _)) (i := 2) (v := .int .i64 ((Y.port : Nat) : Int)) rfl
        have d3 := HG.out.facts (.tail _ (.head _)) (i := 3) (v := .string (bs Y.path)) rfl
        rw [hq.1] at d0
        rw [hq.2.1] at d1
        rw [hq.2.2.1] at d2
        have hdy := Lib.hid (fun W (h : Below w.heap.size w W) => dots_any Y.path W (HT.out.below h) (by omega))
        rw [hq.2.2.2] at hdy
        generalize bs X.scheme = S0 at *
        generalize bs X.host = S1 at *
        generalize ((X.port : Nat) : Int) = y at *
        generalize bs Y.path = SP at *
        clear hR hYY hs0 hq hl h0 zs h3 HX0 HSS
        refine wp_region_noPanic ?_
        refine wp_region_held_drew (S := (fun W => W.cell? ⟨w1.heap.size, 0, none⟩ = some (.string S0) ∧ W.cell? ⟨w1.heap.size, 1, none⟩ = some (.string S1) ∧ W.cell? ⟨w1.heap.size, 2, none⟩ = some (.int .i64 y) ∧ W.cell? ⟨w2.heap.size, 0, none⟩ = some (.string S0) ∧ W.cell? ⟨w2.heap.size, 1, none⟩ = some (.string S1) ∧ W.cell? ⟨w2.heap.size, 2, none⟩ = some (.int .i64 y) ∧ W.cell? ⟨w2.heap.size, 3, none⟩ = some (.string SP) ∧ LK w W [(w3.heap.size, Z), (w2.heap.size, Y), (w1.heap.size, X)])) (by kernel_rfl) (by exact ⟨c0, c1, c2, d0, d1, d2, d3, HG.out.drew⟩) (fun hHeld => ?_)
        refine wpAnyH_take (i := 0) (v := ?v1) rfl (by kernel_rfl) (by kernel_rfl) (by kernel_rfl) (fun _ _ _ h => h) (Or.inl ⟨by kernel_rfl, ?y1⟩) (by assumption) ?t1
        case y1 => (intro w hSw; (try dsimp only at hSw); go_simp; try with_reducible rfl)
        try simp only [Act.put]
        refine wpAnyH_take (i := 1) (v := ?v2) rfl (by kernel_rfl) (by kernel_rfl) (by kernel_rfl) (fun _ _ _ h => h) (Or.inl ⟨by kernel_rfl, ?y2⟩) (by assumption) ?t2
        case y2 => (intro w hSw; (try dsimp only at hSw); go_simp; try with_reducible rfl)
        try simp only [Act.put]
        refine wpAnyH_take (i := 2) (v := ?v3) rfl (by kernel_rfl) (by kernel_rfl) (by kernel_rfl) (fun _ _ _ h => h) (Or.inl ⟨by kernel_rfl, ?y3⟩) (by assumption) ?t3
        case y3 => (intro w hSw; (try dsimp only at hSw); go_simp; try with_reducible rfl)
        try simp only [Act.put]
        refine wpAnyH_take (i := 3) (v := ?v4) rfl (by kernel_rfl) (by kernel_rfl) (by kernel_rfl) (fun _ _ _ h => h) (Or.inl ⟨by kernel_rfl, ?y4⟩) (by assumption) ?t4
        case y4 => (intro w hSw; (try dsimp only at hSw); go_simp; try with_reducible rfl)
        try simp only [Act.put]
        refine wpAnyH_take (i := 4) (v := ?v5) rfl (by kernel_rfl) (by kernel_rfl) (by kernel_rfl) (fun _ _ _ h => h) (Or.inl ⟨by kernel_rfl, ?y5⟩) (by assumption) ?t5
        case y5 => (intro w hSw; (try dsimp only at hSw); go_simp; try with_reducible rfl)
        try simp only [Act.put]
        refine wpAnyH_take (i := 5) (v := ?v6) rfl (by kernel_rfl) (by kernel_rfl) (by kernel_rfl) (fun _ _ _ h => h) (Or.inl ⟨by kernel_rfl, ?y6⟩) (by assumption) ?t6
        case y6 => (intro w hSw; (try dsimp only at hSw); go_simp; try with_reducible rfl)
        try simp only [Act.put]
        refine wpAnyH_take (i := 6) (v := ?v7) rfl (by kernel_rfl) (by kernel_rfl) (by kernel_rfl) (fun _ _ _ h => h) (Or.inl ⟨by kernel_rfl, ?y7⟩) (by assumption) ?t7
        case y7 => (intro w hSw; (try dsimp only at hSw); go_simp; try with_reducible rfl)
        try simp only [Act.put]
        refine wpAnyH_take (i := 7) (v := undef) rfl (by kernel_rfl) (by kernel_rfl) (by kernel_rfl) (fun _ _ _ h => h) (Or.inr ⟨by kernel_rfl, rfl⟩) (by assumption) ?_
        try simp only [Act.put]
        refine wpAnyH_take (i := 8) (v := undef) rfl (by kernel_rfl) (by kernel_rfl) (by kernel_rfl) (fun _ _ _ h => h) (Or.inr ⟨by kernel_rfl, rfl⟩) (by assumption) ?_
        try simp only [Act.put]
        refine wpAnyH_take (i := 9) (v := undef) rfl (by kernel_rfl) (by kernel_rfl) (by kernel_rfl) (fun _ _ _ h => h) (Or.inr ⟨by kernel_rfl, rfl⟩) (by assumption) ?_
        try simp only [Act.put]
        refine wpAnyH_take (i := 10) (v := ?v8) rfl (by kernel_rfl) (by kernel_rfl) (by kernel_rfl) (fun _ _ _ h => h) (Or.inl ⟨by kernel_rfl, ?y8⟩) (by assumption) ?t8
        case y8 => (intro w hSw; (try dsimp only at hSw); go_simp; try with_reducible rfl)
        try simp only [Act.put]
        refine wpAnyH_take (i := 11) (v := ?v9) rfl (by kernel_rfl) (by kernel_rfl) (by kernel_rfl) (fun _ _ _ h => h) (Or.inl ⟨by kernel_rfl, ?y9⟩) (by assumption) ?t9
        case y9 => (intro w hSw; (try dsimp only at hSw); go_simp; try with_reducible rfl)
        try simp only [Act.put]
        refine wpAnyH_take (i := 12) (v := ?v10) rfl (by kernel_rfl) (by kernel_rfl) (by kernel_rfl) (fun _ _ _ h => h) (Or.inl ⟨by kernel_rfl, ?y10⟩) (by assumption) ?t10
        case y10 => (intro w hSw; (try dsimp only at hSw); go_simp; try with_reducible rfl)
        try simp only [Act.put]
        refine wpAnyH_take (i := 13) (v := ?v11) rfl (by kernel_rfl) (by kernel_rfl) (by kernel_rfl) (fun _ _ _ h => h) (Or.inl ⟨by kernel_rfl, ?y11⟩) (by assumption) ?t11
        case y11 => (intro w hSw; (try dsimp only at hSw); go_simp; try with_reducible rfl)
        try simp only [Act.put]
        refine wpAnyH_take (i := 14) (v := ?v12) rfl (by kernel_rfl) (by kernel_rfl) (by kernel_rfl) (fun _ _ _ h => h) (Or.inl ⟨by kernel_rfl, ?y12⟩) (by assumption) ?t12
        case y12 => (intro w hSw; (try dsimp only at hSw); go_simp; try with_reducible rfl)
        try simp only [Act.put]
        refine wpAnyH_take (i := 15) (v := ?v13) rfl (by kernel_rfl) (by kernel_rfl) (by kernel_rfl) (fun _ _ _ h => h) (Or.inl ⟨by kernel_rfl, ?y13⟩) (by assumption) ?t13
        case y13 => (intro w hSw; (try dsimp only at hSw); go_simp; try with_reducible rfl)
        try simp only [Act.put]
        refine wpAnyH_take (i := 16) (v := ?v14) rfl (by kernel_rfl) (by kernel_rfl) (by kernel_rfl) (fun _ _ _ h => h) (Or.inl ⟨by kernel_rfl, ?y14⟩) (by assumption) ?t14
        case y14 => (intro w hSw; (try dsimp only at hSw); go_simp; try with_reducible rfl)
        try simp only [Act.put]
        refine wpAnyH_take (i := 17) (v := ?v15) rfl (by kernel_rfl) (by kernel_rfl) (by kernel_rfl) (fun _ _ _ h => h) (Or.inl ⟨by kernel_rfl, ?y15⟩) (by assumption) ?t15
        case y15 => (intro w hSw; (try dsimp only at hSw); go_simp; try with_reducible rfl)
        try simp only [Act.put]
        refine wpAnyH_take (i := 18) (v := ?v16) rfl (by kernel_rfl) (by kernel_rfl) (by kernel_rfl) (fun _ _ _ h => h) (Or.inl ⟨by kernel_rfl, ?y16⟩) (by assumption) ?t16
        case y16 => (intro w hSw; (try dsimp only at hSw); go_simp; try with_reducible rfl)
        try simp only [Act.put]
        refine wpAnyH_take (i := 19) (v := ?v17) rfl (by kernel_rfl) (by kernel_rfl) (by kernel_rfl) (fun _ _ _ h => h) (Or.inl ⟨by kernel_rfl, ?y17⟩) (by assumption) ?t17
        case y17 => (intro w hSw; (try dsimp only at hSw); go_simp; try with_reducible rfl)
        try simp only [Act.put]
        refine wpAnyH_take (i := 20) (v := ?v18) rfl (by kernel_rfl) (by kernel_rfl) (by kernel_rfl) (fun _ _ _ h => h) (Or.inl ⟨by kernel_rfl, ?y18⟩) (by assumption) ?t18
        case y18 => (intro w hSw; (try dsimp only at hSw); go_simp; try with_reducible rfl)
        try simp only [Act.put]
        refine wpAnyH_take (i := 21) (v := ?v19) rfl (by kernel_rfl) (by kernel_rfl) (by kernel_rfl) (fun _ _ _ h => h) (Or.inl ⟨by kernel_rfl, ?y19⟩) (by assumption) ?t19
        case y19 => (intro w hSw; (try dsimp only at hSw); go_simp; try with_reducible rfl)
        try simp only [Act.put]
        refine wpAnyH_take (i := 22) (v := ?v20) rfl (by kernel_rfl) (by kernel_rfl) (by kernel_rfl) (fun _ _ _ h => h) (Or.inl ⟨by kernel_rfl, ?y20⟩) (by assumption) ?t20
        case y20 => (intro w hSw; (try dsimp only at hSw); go_simp; try with_reducible rfl)
        try simp only [Act.put]
        refine wpAnyH_take (i := 23) (v := ?v21) rfl (by kernel_rfl) (by kernel_rfl) (by kernel_rfl) (fun _ _ _ h => h) (Or.inl ⟨by kernel_rfl, ?y21⟩) (by assumption) ?t21
        case y21 => (intro w hSw; (try dsimp only at hSw); go_simp; try with_reducible rfl)
        try simp only [Act.put]
        refine wpAnyH_take (i := 24) (v := ?v22) rfl (by kernel_rfl) (by kernel_rfl) (by kernel_rfl) (fun _ _ _ h => h) (Or.inl ⟨by kernel_rfl, ?y22⟩) (by assumption) ?t22
        case y22 => (intro w hSw; (try dsimp only at hSw); go_simp; try with_reducible rfl)
        try simp only [Act.put]
        refine wpAnyH_take (i := 25) (v := ?v23) rfl (by kernel_rfl) (by kernel_rfl) (by kernel_rfl) (fun _ _ _ h => h) (Or.inl ⟨by kernel_rfl, ?y23⟩) (by assumption) ?t23
        case y23 => (intro w hSw; (try dsimp only at hSw); go_simp; try with_reducible rfl)
        try simp only [Act.put]
        refine wpAnyH_take (i := 26) (v := ?v24) rfl (by kernel_rfl) (by kernel_rfl) (by kernel_rfl) (fun _ _ _ h => h) (Or.inl ⟨by kernel_rfl, ?y24⟩) (by assumption) ?t24
        case y24 => (intro w hSw; (try dsimp only at hSw); go_simp; try with_reducible rfl)
        try simp only [Act.put]
        refine wpAnyH_take (i := 27) (v := ?v25) rfl (by kernel_rfl) (by kernel_rfl) (by kernel_rfl) (fun _ _ _ h => h) (Or.inl ⟨by kernel_rfl, ?y25⟩) (by assumption) ?t25
        case y25 => (intro w hSw; (try dsimp only at hSw); go_simp; try with_reducible rfl)
        try simp only [Act.put]
        refine wpAnyH_take (i := 28) (v := ?v26) rfl (by kernel_rfl) (by kernel_rfl) (by kernel_rfl) (fun _ _ _ h => h) (Or.inl ⟨by kernel_rfl, ?y26⟩) (by assumption) ?t26
        case y26 => (intro w hSw; (try dsimp only at hSw); go_simp; try with_reducible rfl)
        try simp only [Act.put]
        refine wpAnyH_take (i := 29) (v := ?v27) rfl (by kernel_rfl) (by kernel_rfl) (by kernel_rfl) (fun _ _ _ h => h) (Or.inl ⟨by kernel_rfl, ?y27⟩) (by assumption) ?t27
        case y27 => (intro w hSw; (try dsimp only at hSw); go_simp; try with_reducible rfl)
        try simp only [Act.put]
        refine wpAnyH_take (i := 30) (v := ?v28) rfl (by kernel_rfl) (by kernel_rfl) (by kernel_rfl) (fun _ _ _ h => h) (Or.inl ⟨by kernel_rfl, ?y28⟩) (by assumption) ?t28
        case y28 => (intro w hSw; (try dsimp only at hSw); go_simp; try with_reducible rfl)
        try simp only [Act.put]
        refine wpAnyH_take (i := 31) (v := ?v29) rfl (by kernel_rfl) (by kernel_rfl) (by kernel_rfl) (fun _ _ _ h => h) (Or.inl ⟨by kernel_rfl, ?y29⟩) (by assumption) ?t29
        case y29 => (intro w hSw; (try dsimp only at hSw); go_simp; try with_reducible rfl)
        try simp only [Act.put]
        refine wpAnyH_take (i := 32) (v := ?v30) rfl (by kernel_rfl) (by kernel_rfl) (by kernel_rfl) (fun _ _ _ h => h) (Or.inl ⟨by kernel_rfl, ?y30⟩) (by assumption) ?t30
        case y30 => (intro w hSw; (try dsimp only at hSw); go_simp; try with_reducible rfl)
        try simp only [Act.put]
        refine wpAnyH_take (i := 33) (v := ?v31) rfl (by kernel_rfl) (by kernel_rfl) (by kernel_rfl) (fun _ _ _ h => h) (Or.inl ⟨by kernel_rfl, ?y31⟩) (by assumption) ?t31
        case y31 => (intro w hSw; (try dsimp only at hSw); go_simp; try with_reducible rfl)
        try simp only [Act.put]
        refine wpAnyH_take (i := 34) (v := ?v32) rfl (by kernel_rfl) (by kernel_rfl) (by kernel_rfl) (fun _ _ _ h => h) (Or.inl ⟨by kernel_rfl, ?y32⟩) (by assumption) ?t32
        case y32 => (intro w hSw; (try dsimp only at hSw); go_simp; try with_reducible rfl)
        try simp only [Act.put]
        refine wpAnyH_take (i := 36) (v := ?v33) rfl (by kernel_rfl) (by kernel_rfl) (by kernel_rfl) (fun _ _ _ h => h) (Or.inl ⟨by kernel_rfl, ?y33⟩) (by assumption) ?t33
        case y33 => (intro w hSw; (try dsimp only at hSw); go_simp; try with_reducible rfl)
        try simp only [Act.put]
        refine wpAnyH_take (i := 37) (v := ?v34) rfl (by kernel_rfl) (by kernel_rfl) (by kernel_rfl) (fun _ _ _ h => h) (Or.inl ⟨by kernel_rfl, ?y34⟩) (by assumption) ?t34
        case y34 => (intro w hSw; (try dsimp only at hSw); go_simp; try with_reducible rfl)
        try simp only [Act.put]
        refine wpAnyH_ready (rs := [35]) (by kernel_rfl) (by simp) ?_
        refine AllReadyH.cons rfl (fun KX hKX => ?_) AllReadyH.nil
        go_simp
        (obtain ⟨k0, k1, k2, k3, k4, k5, k6, kL⟩ := hHeld; refine (hdy.out _ kL.bel).mono ?_; rintro e w9 ⟨rfl, hb9⟩)
        refine hKX.out _ _ (by exact ⟨stay (blk_lt (kL.at_ (.tail _ (.tail _ (.head _))))) hb9 k0, stay (blk_lt (kL.at_ (.tail _ (.tail _ (.head _))))) hb9 k1, stay (blk_lt (kL.at_ (.tail _ (.tail _ (.head _))))) hb9 k2, stay (blk_lt (kL.at_ (.tail _ (.head _)))) hb9 k3, stay (blk_lt (kL.at_ (.tail _ (.head _)))) hb9 k4, stay (blk_lt (kL.at_ (.tail _ (.head _)))) hb9 k5, stay (blk_lt (kL.at_ (.tail _ (.head _)))) hb9 k6, kL.call hb9⟩) (fun hHeld => ?_)
        clear hKX KX
        try simp only [Act.put]
        refine wpAnyH_take (i := 38) (v := ?v35) rfl (by kernel_rfl) (by kernel_rfl) (by kernel_rfl) (fun _ _ _ h => h) (Or.inl ⟨by kernel_rfl, ?y35⟩) (by assumption) ?t35
        case y35 => (intro w hSw; (try dsimp only at hSw); go_simp; try with_reducible rfl)
        try simp only [Act.put]
        refine wpAnyH_take (i := 39) (v := ?v36) rfl (by kernel_rfl) (by kernel_rfl) (by kernel_rfl) (fun _ _ _ h => h) (Or.inl ⟨by kernel_rfl, ?y36⟩) (by assumption) ?t36
        case y36 => (intro w hSw; (try dsimp only at hSw); go_simp; try with_reducible rfl)
        try simp only [Act.put]
        refine wpAnyH_take (i := 40) (v := ?v37) rfl (by kernel_rfl) (by kernel_rfl) (by kernel_rfl) (fun _ _ _ h => h) (Or.inl ⟨by kernel_rfl, ?y37⟩) (by assumption) ?t37
        case y37 => (intro w hSw; (try dsimp only at hSw); go_simp; try with_reducible rfl)
        try simp only [Act.put]
        refine wpAnyH_done (by kernel_rfl) ?_ _
        refine NoPanic.normal ?_
        try simp only [Act.put, List.getElem_toArray, List.getElem_cons_succ, List.getElem_cons_zero, List.setIfInBounds_toArray, List.set_cons_zero, List.set_cons_succ]
        go_wp2_with fail
        go_meet
        exact ⟨rfl, hHeld.2.2.2.2.2.2.2⟩
      · have t2 : ((s.length : Int) == 0) = false := by rw [beq_eq_false_iff_ne]; omega
        have hx := fun W => HX0.out (by omega) W
        obtain ⟨c, hc⟩ : ∃ c, c = s.getD 0 0 := ⟨_, rfl⟩
        simp only [← hc] at hx
        by_cases h7 : c = 47
        · have t3 : (((c.toNat : Nat) : Int) != 47) = false := by rw [h7]; rfl
          obtain ⟨cn, hcn⟩ : ∃ cn : Int, cn = ((c.toNat : Nat) : Int) := ⟨_, rfl⟩
          simp only [← hcn] at hx t3
          clear hcn hc h7 hR hYY hl h0 zs h3 HX0 HSS
          go_quiet (fail)
          go_wp2_with fail
          go_meet
          exact ⟨rfl, HG.out.drewN _⟩
        · have t3 : (((c.toNat : Nat) : Int) != 47) = true := by
            rw [bne_iff_ne]; intro h; apply h7; apply UInt8.toNat_inj.1; show c.toNat = 47; omega
          have hq := HQ1.out Y' hR (by
            intro h
            apply h7
            rw [hc]
            cases s with
            | nil => cases h
            | cons x r => simp at h; simp [h])
          rw [← hYY] at hq
          obtain ⟨cn, hcn⟩ : ∃ cn : Int, cn = ((c.toNat : Nat) : Int) := ⟨_, rfl⟩
          simp only [← hcn] at hx t3
          have c0 := HG.out.facts (.tail _ (.tail _ (.head _))) (i := 0) (v := .string (bs X.scheme)) rfl
          have c1 := HG.out.facts (.tail _ (.tail _ (.head _))) (i := 1) (v := .string (bs X.host)) rfl
          have c2 := HG.out.facts (.tail _ (.tail _ (.head _))) (i := 2) (v := .int .i64 ((X.port : Nat) : Int)) rfl
          have d0 := HG.out.facts (.tail _ (.head _)) (i := 0) (v := .string (bs Y.scheme)) rfl
          have d1 := HG.out.facts (.tail _ (.head _)) (i := 1) (v := .string (bs Y.host)) rfl
          have d2 := HG.out.facts (.tail _ (.head _)) (i := 2) (v := .int .i64 ((Y.port : Nat) : Int)) rfl
          have d3 := HG.out.facts (.tail _ (.head _)) (i := 3) (v := .string (bs Y.path)) rfl
          rw [hq.1] at d0
          rw [hq.2.1] at d1
          rw [hq.2.2.1] at d2
          have hdy := Lib.hid (fun W (h : Below w.heap.size w W) => dots_any Y.path W (HT.out.below h) (by omega))
          rw [hq.2.2.2] at hdy
          generalize bs X.scheme = S0 at *
          generalize bs X.host = S1 at *
          generalize ((X.port : Nat) : Int) = y at *
          generalize bs Y.path = SP at *
          clear hcn hc h7 hR hYY hq hl h0 zs h3 HX0 HSS
          refine wp_region_noPanic ?_
          refine wp_region_held_drew (S := (fun W => W.cell? ⟨w1.heap.size, 0, none⟩ = some (.string S0) ∧ W.cell? ⟨w1.heap.size, 1, none⟩ = some (.string S1) ∧ W.cell? ⟨w1.heap.size, 2, none⟩ = some (.int .i64 y) ∧ W.cell? ⟨w2.heap.size, 0, none⟩ = some (.string S0) ∧ W.cell? ⟨w2.heap.size, 1, none⟩ = some (.string S1) ∧ W.cell? ⟨w2.heap.size, 2, none⟩ = some (.int .i64 y) ∧ W.cell? ⟨w2.heap.size, 3, none⟩ = some (.string SP) ∧ LK w W [(w3.heap.size, Z), (w2.heap.size, Y), (w1.heap.size, X)])) (by kernel_rfl) (by exact ⟨c0, c1, c2, d0, d1, d2, d3, HG.out.drew⟩) (fun hHeld => ?_)
          refine wpAnyH_take (i := 0) (v := ?v38) rfl (by kernel_rfl) (by kernel_rfl) (by kernel_rfl) (fun _ _ _ h => h) (Or.inl ⟨by kernel_rfl, ?y38⟩) (by assumption) ?t38
          case y38 => (intro w hSw; (try dsimp only at hSw); go_simp; try with_reducible rfl)
          try simp only [Act.put]
          refine wpAnyH_take (i := 1) (v := ?v39) rfl (by kernel_rfl) (by kernel_rfl) (by kernel_rfl) (fun _ _ _ h => h) (Or.inl ⟨by kernel_rfl, ?y39⟩) (by assumption) ?t39
          case y39 => (intro w hSw; (try dsimp only at hSw); go_simp; try with_reducible rfl)
          try simp only [Act.put]
          refine wpAnyH_take (i := 2) (v := ?v40) rfl (by kernel_rfl) (by kernel_rfl) (by kernel_rfl) (fun _ _ _ h => h) (Or.inl ⟨by kernel_rfl, ?y40⟩) (by assumption) ?t40
          case y40 => (intro w hSw; (try dsimp only at hSw); go_simp; try with_reducible rfl)
          try simp only [Act.put]
          refine wpAnyH_take (i := 3) (v := ?v41) rfl (by kernel_rfl) (by kernel_rfl) (by kernel_rfl) (fun _ _ _ h => h) (Or.inl ⟨by kernel_rfl, ?y41⟩) (by assumption) ?t41
          case y41 => (intro w hSw; (try dsimp only at hSw); go_simp; try with_reducible rfl)
          try simp only [Act.put]
          refine wpAnyH_take (i := 4) (v := ?v42) rfl (by kernel_rfl) (by kernel_rfl) (by kernel_rfl) (fun _ _ _ h => h) (Or.inl ⟨by kernel_rfl, ?y42⟩) (by assumption) ?t42
          case y42 => (intro w hSw; (try dsimp only at hSw); go_simp; try with_reducible rfl)
          try simp only [Act.put]
          refine wpAnyH_take (i := 5) (v := ?v43) rfl (by kernel_rfl) (by kernel_rfl) (by kernel_rfl) (fun _ _ _ h => h) (Or.inl ⟨by kernel_rfl, ?y43⟩) (by assumption) ?t43
          case y43 => (intro w hSw; (try dsimp only at hSw); go_simp; try with_reducible rfl)
          try simp only [Act.put]
          refine wpAnyH_take (i := 6) (v := ?v44) rfl (by kernel_rfl) (by kernel_rfl) (by kernel_rfl) (fun _ _ _ h => h) (Or.inl ⟨by kernel_rfl, ?y44⟩) (by assumption) ?t44
          case y44 => (intro w hSw; (try dsimp only at hSw); go_simp; try with_reducible rfl)
          try simp only [Act.put]
          refine wpAnyH_take (i := 7) (v := ?v45) rfl (by kernel_rfl) (by kernel_rfl) (by kernel_rfl) (fun _ _ _ h => h) (Or.inl ⟨by kernel_rfl, ?y45⟩) (by assumption) ?t45
          case y45 => (intro w hSw; (try dsimp only at hSw); go_simp; try with_reducible rfl)
          try simp only [Act.put]
          refine wpAnyH_take (i := 8) (v := ?v46) rfl (by kernel_rfl) (by kernel_rfl) (by kernel_rfl) (fun _ _ _ h => h) (Or.inl ⟨by kernel_rfl, ?y46⟩) (by assumption) ?t46
          case y46 => (intro w hSw; (try dsimp only at hSw); go_simp; try with_reducible rfl)
          try simp only [Act.put]
          refine wpAnyH_take (i := 9) (v := ?v47) rfl (by kernel_rfl) (by kernel_rfl) (by kernel_rfl) (fun _ _ _ h => h) (Or.inl ⟨by kernel_rfl, ?y47⟩) (by assumption) ?t47
          case y47 => (intro w hSw; (try dsimp only at hSw); go_simp; try with_reducible rfl)
          try simp only [Act.put]
          refine wpAnyH_take (i := 10) (v := ?v48) rfl (by kernel_rfl) (by kernel_rfl) (by kernel_rfl) (fun _ _ _ h => h) (Or.inl ⟨by kernel_rfl, ?y48⟩) (by assumption) ?t48
          case y48 => (intro w hSw; (try dsimp only at hSw); go_simp; try with_reducible rfl)
          try simp only [Act.put]
          refine wpAnyH_take (i := 11) (v := ?v49) rfl (by kernel_rfl) (by kernel_rfl) (by kernel_rfl) (fun _ _ _ h => h) (Or.inl ⟨by kernel_rfl, ?y49⟩) (by assumption) ?t49
          case y49 => (intro w hSw; (try dsimp only at hSw); go_simp; try with_reducible rfl)
          try simp only [Act.put]
          refine wpAnyH_take (i := 12) (v := ?v50) rfl (by kernel_rfl) (by kernel_rfl) (by kernel_rfl) (fun _ _ _ h => h) (Or.inl ⟨by kernel_rfl, ?y50⟩) (by assumption) ?t50
          case y50 => (intro w hSw; (try dsimp only at hSw); go_simp; try with_reducible rfl)
          try simp only [Act.put]
          refine wpAnyH_take (i := 13) (v := ?v51) rfl (by kernel_rfl) (by kernel_rfl) (by kernel_rfl) (fun _ _ _ h => h) (Or.inl ⟨by kernel_rfl, ?y51⟩) (by assumption) ?t51
          case y51 => (intro w hSw; (try dsimp only at hSw); go_simp; try with_reducible rfl)
          try simp only [Act.put]
          refine wpAnyH_take (i := 14) (v := ?v52) rfl (by kernel_rfl) (by kernel_rfl) (by kernel_rfl) (fun _ _ _ h => h) (Or.inl ⟨by kernel_rfl, ?y52⟩) (by assumption) ?t52
          case y52 => (intro w hSw; (try dsimp only at hSw); go_simp; try with_reducible rfl)
          try simp only [Act.put]
          refine wpAnyH_take (i := 15) (v := ?v53) rfl (by kernel_rfl) (by kernel_rfl) (by kernel_rfl) (fun _ _ _ h => h) (Or.inl ⟨by kernel_rfl, ?y53⟩) (by assumption) ?t53
          case y53 => (intro w hSw; (try dsimp only at hSw); go_simp; try with_reducible rfl)
          try simp only [Act.put]
          refine wpAnyH_take (i := 16) (v := ?v54) rfl (by kernel_rfl) (by kernel_rfl) (by kernel_rfl) (fun _ _ _ h => h) (Or.inl ⟨by kernel_rfl, ?y54⟩) (by assumption) ?t54
          case y54 => (intro w hSw; (try dsimp only at hSw); go_simp; try with_reducible rfl)
          try simp only [Act.put]
          refine wpAnyH_take (i := 17) (v := ?v55) rfl (by kernel_rfl) (by kernel_rfl) (by kernel_rfl) (fun _ _ _ h => h) (Or.inl ⟨by kernel_rfl, ?y55⟩) (by assumption) ?t55
          case y55 => (intro w hSw; (try dsimp only at hSw); go_simp; try with_reducible rfl)
          try simp only [Act.put]
          refine wpAnyH_take (i := 18) (v := ?v56) rfl (by kernel_rfl) (by kernel_rfl) (by kernel_rfl) (fun _ _ _ h => h) (Or.inl ⟨by kernel_rfl, ?y56⟩) (by assumption) ?t56
          case y56 => (intro w hSw; (try dsimp only at hSw); go_simp; try with_reducible rfl)
          try simp only [Act.put]
          refine wpAnyH_take (i := 19) (v := ?v57) rfl (by kernel_rfl) (by kernel_rfl) (by kernel_rfl) (fun _ _ _ h => h) (Or.inl ⟨by kernel_rfl, ?y57⟩) (by assumption) ?t57
          case y57 => (intro w hSw; (try dsimp only at hSw); go_simp; try with_reducible rfl)
          try simp only [Act.put]
          refine wpAnyH_take (i := 20) (v := ?v58) rfl (by kernel_rfl) (by kernel_rfl) (by kernel_rfl) (fun _ _ _ h => h) (Or.inl ⟨by kernel_rfl, ?y58⟩) (by assumption) ?t58
          case y58 => (intro w hSw; (try dsimp only at hSw); go_simp; try with_reducible rfl)
          try simp only [Act.put]
          refine wpAnyH_take (i := 21) (v := ?v59) rfl (by kernel_rfl) (by kernel_rfl) (by kernel_rfl) (fun _ _ _ h => h) (Or.inl ⟨by kernel_rfl, ?y59⟩) (by assumption) ?t59
          case y59 => (intro w hSw; (try dsimp only at hSw); go_simp; try with_reducible rfl)
          try simp only [Act.put]
          refine wpAnyH_take (i := 22) (v := ?v60) rfl (by kernel_rfl) (by kernel_rfl) (by kernel_rfl) (fun _ _ _ h => h) (Or.inl ⟨by kernel_rfl, ?y60⟩) (by assumption) ?t60
          case y60 => (intro w hSw; (try dsimp only at hSw); go_simp; try with_reducible rfl)
          try simp only [Act.put]
          refine wpAnyH_take (i := 23) (v := ?v61) rfl (by kernel_rfl) (by kernel_rfl) (by kernel_rfl) (fun _ _ _ h => h) (Or.inl ⟨by kernel_rfl, ?y61⟩) (by assumption) ?t61
          case y61 => (intro w hSw; (try dsimp only at hSw); go_simp; try with_reducible rfl)
          try simp only [Act.put]
          refine wpAnyH_take (i := 24) (v := ?v62) rfl (by kernel_rfl) (by kernel_rfl) (by kernel_rfl) (fun _ _ _ h => h) (Or.inl ⟨by kernel_rfl, ?y62⟩) (by assumption) ?t62
          case y62 => (intro w hSw; (try dsimp only at hSw); go_simp; try with_reducible rfl)
          try simp only [Act.put]
          refine wpAnyH_take (i := 25) (v := ?v63) rfl (by kernel_rfl) (by kernel_rfl) (by kernel_rfl) (fun _ _ _ h => h) (Or.inl ⟨by kernel_rfl, ?y63⟩) (by assumption) ?t63
          case y63 => (intro w hSw; (try dsimp only at hSw); go_simp; try with_reducible rfl)
          try simp only [Act.put]
          refine wpAnyH_take (i := 26) (v := ?v64) rfl (by kernel_rfl) (by kernel_rfl) (by kernel_rfl) (fun _ _ _ h => h) (Or.inl ⟨by kernel_rfl, ?y64⟩) (by assumption) ?t64
          case y64 => (intro w hSw; (try dsimp only at hSw); go_simp; try with_reducible rfl)
          try simp only [Act.put]
          refine wpAnyH_take (i := 27) (v := ?v65) rfl (by kernel_rfl) (by kernel_rfl) (by kernel_rfl) (fun _ _ _ h => h) (Or.inl ⟨by kernel_rfl, ?y65⟩) (by assumption) ?t65
          case y65 => (intro w hSw; (try dsimp only at hSw); go_simp; try with_reducible rfl)
          try simp only [Act.put]
          refine wpAnyH_take (i := 28) (v := ?v66) rfl (by kernel_rfl) (by kernel_rfl) (by kernel_rfl) (fun _ _ _ h => h) (Or.inl ⟨by kernel_rfl, ?y66⟩) (by assumption) ?t66
          case y66 => (intro w hSw; (try dsimp only at hSw); go_simp; try with_reducible rfl)
          try simp only [Act.put]
          refine wpAnyH_take (i := 29) (v := ?v67) rfl (by kernel_rfl) (by kernel_rfl) (by kernel_rfl) (fun _ _ _ h => h) (Or.inl ⟨by kernel_rfl, ?y67⟩) (by assumption) ?t67
          case y67 => (intro w hSw; (try dsimp only at hSw); go_simp; try with_reducible rfl)
          try simp only [Act.put]
          refine wpAnyH_take (i := 30) (v := ?v68) rfl (by kernel_rfl) (by kernel_rfl) (by kernel_rfl) (fun _ _ _ h => h) (Or.inl ⟨by kernel_rfl, ?y68⟩) (by assumption) ?t68
          case y68 => (intro w hSw; (try dsimp only at hSw); go_simp; try with_reducible rfl)
          try simp only [Act.put]
          refine wpAnyH_take (i := 31) (v := ?v69) rfl (by kernel_rfl) (by kernel_rfl) (by kernel_rfl) (fun _ _ _ h => h) (Or.inl ⟨by kernel_rfl, ?y69⟩) (by assumption) ?t69
          case y69 => (intro w hSw; (try dsimp only at hSw); go_simp; try with_reducible rfl)
          try simp only [Act.put]
          refine wpAnyH_take (i := 32) (v := ?v70) rfl (by kernel_rfl) (by kernel_rfl) (by kernel_rfl) (fun _ _ _ h => h) (Or.inl ⟨by kernel_rfl, ?y70⟩) (by assumption) ?t70
          case y70 => (intro w hSw; (try dsimp only at hSw); go_simp; try with_reducible rfl)
          try simp only [Act.put]
          refine wpAnyH_take (i := 33) (v := ?v71) rfl (by kernel_rfl) (by kernel_rfl) (by kernel_rfl) (fun _ _ _ h => h) (Or.inl ⟨by kernel_rfl, ?y71⟩) (by assumption) ?t71
          case y71 => (intro w hSw; (try dsimp only at hSw); go_simp; try with_reducible rfl)
          try simp only [Act.put]
          refine wpAnyH_take (i := 34) (v := ?v72) rfl (by kernel_rfl) (by kernel_rfl) (by kernel_rfl) (fun _ _ _ h => h) (Or.inl ⟨by kernel_rfl, ?y72⟩) (by assumption) ?t72
          case y72 => (intro w hSw; (try dsimp only at hSw); go_simp; try with_reducible rfl)
          try simp only [Act.put]
          refine wpAnyH_take (i := 36) (v := ?v73) rfl (by kernel_rfl) (by kernel_rfl) (by kernel_rfl) (fun _ _ _ h => h) (Or.inl ⟨by kernel_rfl, ?y73⟩) (by assumption) ?t73
          case y73 => (intro w hSw; (try dsimp only at hSw); go_simp; try with_reducible rfl)
          try simp only [Act.put]
          refine wpAnyH_take (i := 37) (v := ?v74) rfl (by kernel_rfl) (by kernel_rfl) (by kernel_rfl) (fun _ _ _ h => h) (Or.inl ⟨by kernel_rfl, ?y74⟩) (by assumption) ?t74
          case y74 => (intro w hSw; (try dsimp only at hSw); go_simp; try with_reducible rfl)
          try simp only [Act.put]
          refine wpAnyH_ready (rs := [35]) (by kernel_rfl) (by simp) ?_
          refine AllReadyH.cons rfl (fun KX hKX => ?_) AllReadyH.nil
          go_simp
          (obtain ⟨k0, k1, k2, k3, k4, k5, k6, kL⟩ := hHeld; refine (hdy.out _ kL.bel).mono ?_; rintro e w9 ⟨rfl, hb9⟩)
          refine hKX.out _ _ (by exact ⟨stay (blk_lt (kL.at_ (.tail _ (.tail _ (.head _))))) hb9 k0, stay (blk_lt (kL.at_ (.tail _ (.tail _ (.head _))))) hb9 k1, stay (blk_lt (kL.at_ (.tail _ (.tail _ (.head _))))) hb9 k2, stay (blk_lt (kL.at_ (.tail _ (.head _)))) hb9 k3, stay (blk_lt (kL.at_ (.tail _ (.head _)))) hb9 k4, stay (blk_lt (kL.at_ (.tail _ (.head _)))) hb9 k5, stay (blk_lt (kL.at_ (.tail _ (.head _)))) hb9 k6, kL.call hb9⟩) (fun hHeld => ?_)
          clear hKX KX
          try simp only [Act.put]
          refine wpAnyH_take (i := 38) (v := ?v75) rfl (by kernel_rfl) (by kernel_rfl) (by kernel_rfl) (fun _ _ _ h => h) (Or.inl ⟨by kernel_rfl, ?y75⟩) (by assumption) ?t75
          case y75 => (intro w hSw; (try dsimp only at hSw); go_simp; try with_reducible rfl)
          try simp only [Act.put]
          refine wpAnyH_take (i := 39) (v := ?v76) rfl (by kernel_rfl) (by kernel_rfl) (by kernel_rfl) (fun _ _ _ h => h) (Or.inl ⟨by kernel_rfl, ?y76⟩) (by assumption) ?t76
          case y76 => (intro w hSw; (try dsimp only at hSw); go_simp; try with_reducible rfl)
          try simp only [Act.put]
          refine wpAnyH_take (i := 40) (v := ?v77) rfl (by kernel_rfl) (by kernel_rfl) (by kernel_rfl) (fun _ _ _ h => h) (Or.inl ⟨by kernel_rfl, ?y77⟩) (by assumption) ?t77
          case y77 => (intro w hSw; (try dsimp only at hSw); go_simp; try with_reducible rfl)
          try simp only [Act.put]
          refine wpAnyH_done (by kernel_rfl) ?_ _
          refine NoPanic.normal ?_
          try simp only [Act.put, List.getElem_toArray, List.getElem_cons_succ, List.getElem_cons_zero, List.setIfInBounds_toArray, List.set_cons_zero, List.set_cons_succ]
          go_wp2_with fail
          go_meet
          exact ⟨rfl, hHeld.2.2.2.2.2.2.2⟩
  case rest =>
    obtain ⟨rfl, hlk⟩ := hcut
    clear HG
    have HG := Lib.hid hlk
    clear hlk
    cases hR : R2 with
    | none =>
      have t1 : (E2 != 0) = true := by rw [HE2.out, hR]; rfl
      clear hR zs
      go_wp2_with fail
      go_quiet (fail)
      go_wp2_with fail
      go_ret
      exact ⟨rfl, (HG.out.drewN _).bel⟩
    | some Z' =>
      have t1 : (E2 != 0) = false := by rw [HE2.out, hR]; rfl
      have hZZ : Z = Z' := by rw [HZ.out, hR]; rfl
      have hl := HL2.out Z' hR
      have hq := HQ2.out Z' hR
      rw [← hZZ] at hl hq
      have c0 := HG.out.facts (.tail _ (.tail _ (.head _))) (i := 0) (v := .string (bs X.scheme)) rfl
      have c1 := HG.out.facts (.tail _ (.tail _ (.head _))) (i := 1) (v := .string (bs X.host)) rfl
      have c2 := HG.out.facts (.tail _ (.tail _ (.head _))) (i := 2) (v := .int .i64 ((X.port : Nat) : Int)) rfl
      have d0 := HG.out.facts (.head _) (i := 0) (v := .string (bs Z.scheme)) rfl
      have d1 := HG.out.facts (.head _) (i := 1) (v := .string (bs Z.host)) rfl
      have d2 := HG.out.facts (.head _) (i := 2) (v := .int .i64 ((Z.port : Nat) : Int)) rfl
      have d3 := HG.out.facts (.head _) (i := 3) (v := .string (bs Z.path)) rfl
      rw [hq.1] at d0
      rw [hq.2.1] at d1
      rw [hq.2.2.1] at d2
      have hdy := Lib.hid (fun W (h : Below w.heap.size w W) => dots_any Z.path W (HT.out.below h) (by omega))
      rw [hq.2.2.2] at hdy
      generalize bs X.scheme = S0 at *
      generalize bs X.host = S1 at *
      generalize ((X.port : Nat) : Int) = y at *
      generalize bs Z.path = SP at *
      clear hR hZZ hq hl zs h3 HX0 HSS
      go_wp2_with fail
      refine wp_region_noPanic ?_
      refine wp_region_held_drew (S := (fun W => W.cell? ⟨w1.heap.size, 0, none⟩ = some (.string S0) ∧ W.cell? ⟨w1.heap.size, 1, none⟩ = some (.string S1) ∧ W.cell? ⟨w1.heap.size, 2, none⟩ = some (.int .i64 y) ∧ W.cell? ⟨w3.heap.size, 0, none⟩ = some (.string S0) ∧ W.cell? ⟨w3.heap.size, 1, none⟩ = some (.string S1) ∧ W.cell? ⟨w3.heap.size, 2, none⟩ = some (.int .i64 y) ∧ W.cell? ⟨w3.heap.size, 3, none⟩ = some (.string SP) ∧ LK w W [(w3.heap.size, Z), (w2.heap.size, Y), (w1.heap.size, X)])) (by kernel_rfl) (by exact ⟨c0, c1, c2, d0, d1, d2, d3, HG.out.drew⟩) (fun hHeld => ?_)
      refine wpAnyH_take (i := 0) (v := ?v78) rfl (by kernel_rfl) (by kernel_rfl) (by kernel_rfl) (fun _ _ _ h => h) (Or.inl ⟨by kernel_rfl, ?y78⟩) (by assumption) ?t78
      case y78 => (intro w hSw; (try dsimp only at hSw); go_simp; try with_reducible rfl)
      try simp only [Act.put]
      refine wpAnyH_take (i := 1) (v := ?v79) rfl (by kernel_rfl) (by kernel_rfl) (by kernel_rfl) (fun _ _ _ h => h) (Or.inl ⟨by kernel_rfl, ?y79⟩) (by assumption) ?t79
      case y79 => (intro w hSw; (try dsimp only at hSw); go_simp; try with_reducible rfl)
      try simp only [Act.put]
      refine wpAnyH_take (i := 2) (v := ?v80) rfl (by kernel_rfl) (by kernel_rfl) (by kernel_rfl) (fun _ _ _ h => h) (Or.inl ⟨by kernel_rfl, ?y80⟩) (by assumption) ?t80
      case y80 => (intro w hSw; (try dsimp only at hSw); go_simp; try with_reducible rfl)
      try simp only [Act.put]
      refine wpAnyH_take (i := 3) (v := ?v81) rfl (by kernel_rfl) (by kernel_rfl) (by kernel_rfl) (fun _ _ _ h => h) (Or.inl ⟨by kernel_rfl, ?y81⟩) (by assumption) ?t81
      case y81 => (intro w hSw; (try dsimp only at hSw); go_simp; try with_reducible rfl)
      try simp only [Act.put]
      refine wpAnyH_take (i := 4) (v := ?v82) rfl (by kernel_rfl) (by kernel_rfl) (by kernel_rfl) (fun _ _ _ h => h) (Or.inl ⟨by kernel_rfl, ?y82⟩) (by assumption) ?t82
      case y82 => (intro w hSw; (try dsimp only at hSw); go_simp; try with_reducible rfl)
      try simp only [Act.put]
      refine wpAnyH_take (i := 5) (v := ?v83) rfl (by kernel_rfl) (by kernel_rfl) (by kernel_rfl) (fun _ _ _ h => h) (Or.inl ⟨by kernel_rfl, ?y83⟩) (by assumption) ?t83
      case y83 => (intro w hSw; (try dsimp only at hSw); go_simp; try with_reducible rfl)
      try simp only [Act.put]
      refine wpAnyH_take (i := 6) (v := ?v84) rfl (by kernel_rfl) (by kernel_rfl) (by kernel_rfl) (fun _ _ _ h => h) (Or.inl ⟨by kernel_rfl, ?y84⟩) (by assumption) ?t84
      case y84 => (intro w hSw; (try dsimp only at hSw); go_simp; try with_reducible rfl)
      try simp only [Act.put]
      refine wpAnyH_take (i := 7) (v := ?v85) rfl (by kernel_rfl) (by kernel_rfl) (by kernel_rfl) (fun _ _ _ h => h) (Or.inl ⟨by kernel_rfl, ?y85⟩) (by assumption) ?t85
      case y85 => (intro w hSw; (try dsimp only at hSw); go_simp; try with_reducible rfl)
      try simp only [Act.put]
      refine wpAnyH_take (i := 8) (v := ?v86) rfl (by kernel_rfl) (by kernel_rfl) (by kernel_rfl) (fun _ _ _ h => h) (Or.inl ⟨by kernel_rfl, ?y86⟩) (by assumption) ?t86
      case y86 => (intro w hSw; (try dsimp only at hSw); go_simp; try with_reducible rfl)
      try simp only [Act.put]
      refine wpAnyH_take (i := 9) (v := ?v87) rfl (by kernel_rfl) (by kernel_rfl) (by kernel_rfl) (fun _ _ _ h => h) (Or.inl ⟨by kernel_rfl, ?y87⟩) (by assumption) ?t87
      case y87 => (intro w hSw; (try dsimp only at hSw); go_simp; try with_reducible rfl)
      try simp only [Act.put]
      refine wpAnyH_take (i := 10) (v := ?v88) rfl (by kernel_rfl) (by kernel_rfl) (by kernel_rfl) (fun _ _ _ h => h) (Or.inl ⟨by kernel_rfl, ?y88⟩) (by assumption) ?t88
      case y88 => (intro w hSw; (try dsimp only at hSw); go_simp; try with_reducible rfl)
      try simp only [Act.put]
      refine wpAnyH_take (i := 11) (v := ?v89) rfl (by kernel_rfl) (by kernel_rfl) (by kernel_rfl) (fun _ _ _ h => h) (Or.inl ⟨by kernel_rfl, ?y89⟩) (by assumption) ?t89
      case y89 => (intro w hSw; (try dsimp only at hSw); go_simp; try with_reducible rfl)
      try simp only [Act.put]
      refine wpAnyH_take (i := 12) (v := ?v90) rfl (by kernel_rfl) (by kernel_rfl) (by kernel_rfl) (fun _ _ _ h => h) (Or.inl ⟨by kernel_rfl, ?y90⟩) (by assumption) ?t90
      case y90 => (intro w hSw; (try dsimp only at hSw); go_simp; try with_reducible rfl)
      try simp only [Act.put]
      refine wpAnyH_take (i := 13) (v := ?v91) rfl (by kernel_rfl) (by kernel_rfl) (by kernel_rfl) (fun _ _ _ h => h) (Or.inl ⟨by kernel_rfl, ?y91⟩) (by assumption) ?t91
      case y91 => (intro w hSw; (try dsimp only at hSw); go_simp; try with_reducible rfl)
      try simp only [Act.put]
      refine wpAnyH_take (i := 14) (v := ?v92) rfl (by kernel_rfl) (by kernel_rfl) (by kernel_rfl) (fun _ _ _ h => h) (Or.inl ⟨by kernel_rfl, ?y92⟩) (by assumption) ?t92
      case y92 => (intro w hSw; (try dsimp only at hSw); go_simp; try with_reducible rfl)
      try simp only [Act.put]
      refine wpAnyH_take (i := 15) (v := ?v93) rfl (by kernel_rfl) (by kernel_rfl) (by kernel_rfl) (fun _ _ _ h => h) (Or.inl ⟨by kernel_rfl, ?y93⟩) (by assumption) ?t93
      case y93 => (intro w hSw; (try dsimp only at hSw); go_simp; try with_reducible rfl)
      try simp only [Act.put]
      refine wpAnyH_take (i := 16) (v := ?v94) rfl (by kernel_rfl) (by kernel_rfl) (by kernel_rfl) (fun _ _ _ h => h) (Or.inl ⟨by kernel_rfl, ?y94⟩) (by assumption) ?t94
      case y94 => (intro w hSw; (try dsimp only at hSw); go_simp; try with_reducible rfl)
      try simp only [Act.put]
      refine wpAnyH_take (i := 17) (v := ?v95) rfl (by kernel_rfl) (by kernel_rfl) (by kernel_rfl) (fun _ _ _ h => h) (Or.inl ⟨by kernel_rfl, ?y95⟩) (by assumption) ?t95
      case y95 => (intro w hSw; (try dsimp only at hSw); go_simp; try with_reducible rfl)
      try simp only [Act.put]
      refine wpAnyH_take (i := 18) (v := ?v96) rfl (by kernel_rfl) (by kernel_rfl) (by kernel_rfl) (fun _ _ _ h => h) (Or.inl ⟨by kernel_rfl, ?y96⟩) (by assumption) ?t96
      case y96 => (intro w hSw; (try dsimp only at hSw); go_simp; try with_reducible rfl)
      try simp only [Act.put]
      refine wpAnyH_take (i := 19) (v := ?v97) rfl (by kernel_rfl) (by kernel_rfl) (by kernel_rfl) (fun _ _ _ h => h) (Or.inl ⟨by kernel_rfl, ?y97⟩) (by assumption) ?t97
      case y97 => (intro w hSw; (try dsimp only at hSw); go_simp; try with_reducible rfl)
      try simp only [Act.put]
      refine wpAnyH_take (i := 20) (v := ?v98) rfl (by kernel_rfl) (by kernel_rfl) (by kernel_rfl) (fun _ _ _ h => h) (Or.inl ⟨by kernel_rfl, ?y98⟩) (by assumption) ?t98
      case y98 => (intro w hSw; (try dsimp only at hSw); go_simp; try with_reducible rfl)
      try simp only [Act.put]
      refine wpAnyH_take (i := 21) (v := ?v99) rfl (by kernel_rfl) (by kernel_rfl) (by kernel_rfl) (fun _ _ _ h => h) (Or.inl ⟨by kernel_rfl, ?y99⟩) (by assumption) ?t99
      case y99 => (intro w hSw; (try dsimp only at hSw); go_simp; try with_reducible rfl)
      try simp only [Act.put]
      refine wpAnyH_take (i := 22) (v := ?v100) rfl (by kernel_rfl) (by kernel_rfl) (by kernel_rfl) (fun _ _ _ h => h) (Or.inl ⟨by kernel_rfl, ?y100⟩) (by assumption) ?t100
      case y100 => (intro w hSw; (try dsimp only at hSw); go_simp; try with_reducible rfl)
      try simp only [Act.put]
      refine wpAnyH_take (i := 23) (v := ?v101) rfl (by kernel_rfl) (by kernel_rfl) (by kernel_rfl) (fun _ _ _ h => h) (Or.inl ⟨by kernel_rfl, ?y101⟩) (by assumption) ?t101
      case y101 => (intro w hSw; (try dsimp only at hSw); go_simp; try with_reducible rfl)
      try simp only [Act.put]
      refine wpAnyH_take (i := 24) (v := ?v102) rfl (by kernel_rfl) (by kernel_rfl) (by kernel_rfl) (fun _ _ _ h => h) (Or.inl ⟨by kernel_rfl, ?y102⟩) (by assumption) ?t102
      case y102 => (intro w hSw; (try dsimp only at hSw); go_simp; try with_reducible rfl)
      try simp only [Act.put]
      refine wpAnyH_take (i := 26) (v := ?v103) rfl (by kernel_rfl) (by kernel_rfl) (by kernel_rfl) (fun _ _ _ h => h) (Or.inl ⟨by kernel_rfl, ?y103⟩) (by assumption) ?t103
      case y103 => (intro w hSw; (try dsimp only at hSw); go_simp; try with_reducible rfl)
      try simp only [Act.put]
      refine wpAnyH_take (i := 27) (v := ?v104) rfl (by kernel_rfl) (by kernel_rfl) (by kernel_rfl) (fun _ _ _ h => h) (Or.inl ⟨by kernel_rfl, ?y104⟩) (by assumption) ?t104
      case y104 => (intro w hSw; (try dsimp only at hSw); go_simp; try with_reducible rfl)
      try simp only [Act.put]
      refine wpAnyH_ready (rs := [25]) (by kernel_rfl) (by simp) ?_
      refine AllReadyH.cons rfl (fun KX hKX => ?_) AllReadyH.nil
      go_simp
      (obtain ⟨k0, k1, k2, k3, k4, k5, k6, kL⟩ := hHeld; refine (hdy.out _ kL.bel).mono ?_; rintro e w9 ⟨rfl, hb9⟩)
      refine hKX.out _ _ (by exact ⟨stay (blk_lt (kL.at_ (.tail _ (.tail _ (.head _))))) hb9 k0, stay (blk_lt (kL.at_ (.tail _ (.tail _ (.head _))))) hb9 k1, stay (blk_lt (kL.at_ (.tail _ (.tail _ (.head _))))) hb9 k2, stay (blk_lt (kL.at_ (.head _))) hb9 k3, stay (blk_lt (kL.at_ (.head _))) hb9 k4, stay (blk_lt (kL.at_ (.head _))) hb9 k5, stay (blk_lt (kL.at_ (.head _))) hb9 k6, kL.call hb9⟩) (fun hHeld => ?_)
      clear hKX KX
      try simp only [Act.put]
      refine wpAnyH_take (i := 28) (v := ?v105) rfl (by kernel_rfl) (by kernel_rfl) (by kernel_rfl) (fun _ _ _ h => h) (Or.inl ⟨by kernel_rfl, ?y105⟩) (by assumption) ?t105
      case y105 => (intro w hSw; (try dsimp only at hSw); go_simp; try with_reducible rfl)
      try simp only [Act.put]
      refine wpAnyH_take (i := 29) (v := ?v106) rfl (by kernel_rfl) (by kernel_rfl) (by kernel_rfl) (fun _ _ _ h => h) (Or.inl ⟨by kernel_rfl, ?y106⟩) (by assumption) ?t106
      case y106 => (intro w hSw; (try dsimp only at hSw); go_simp; try with_reducible rfl)
      try simp only [Act.put]
      refine wpAnyH_take (i := 30) (v := ?v107) rfl (by kernel_rfl) (by kernel_rfl) (by kernel_rfl) (fun _ _ _ h => h) (Or.inl ⟨by kernel_rfl, ?y107⟩) (by assumption) ?t107
      case y107 => (intro w hSw; (try dsimp only at hSw); go_simp; try with_reducible rfl)
      try simp only [Act.put]
      refine wpAnyH_take (i := 31) (v := ?v108) rfl (by kernel_rfl) (by kernel_rfl) (by kernel_rfl) (fun _ _ _ h => h) (Or.inl ⟨by kernel_rfl, ?y108⟩) (by assumption) ?t108
      case y108 => (intro w hSw; (try dsimp only at hSw); go_simp; try with_reducible rfl)
      try simp only [Act.put]
      refine wpAnyH_done (by kernel_rfl) ?_ _
      refine NoPanic.normal ?_
      try simp only [Act.put, List.getElem_toArray, List.getElem_cons_succ, List.getElem_cons_zero, List.setIfInBounds_toArray, List.set_cons_zero, List.set_cons_succ]
      go_wp2_with fail
      go_ret
      exact ⟨rfl, hHeld.2.2.2.2.2.2.2.bel⟩
theorem hosts_any (a s : Bs) (w : World) (hT : Tabs w) (ha : a.length ≤ 9223372036854775807) (hs : s.length ≤ 9223372036854775807) :
    Calls Tryz.prog 8 #[.string (bs a), .string (bs s)] w fun e w' => e = .returned (.bool true) ∧ Below w.heap.size w w' := by
  cases h1 : parseP a with
  | none => exact hosts_a a s w hT ha hs h1
  | some X =>
    by_cases h3 : 3000 < s.length
    · exact hosts_s a s w hT ha hs X h1 h3
    · exact hosts_x a s w hT ha hs X h1 (by omega)
end Go.Proofs.YtcpkkaimingnlaaGreatDoor
