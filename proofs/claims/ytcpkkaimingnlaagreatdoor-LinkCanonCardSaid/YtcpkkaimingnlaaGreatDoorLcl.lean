/-
  The law LinkCanon, walked.
-/
import Derived.Test.YtcpkkaimingnlaaGreatDoorRcn
set_option linter.unusedVariables false
set_option linter.unusedSimpArgs false
namespace Go.Proofs.YtcpkkaimingnlaaGreatDoor
open Go.RowKit

theorem run_loadK {o : Oper} {a : Act} {W : World} {g : Nat} {l : Link} (x : Operand) (ho : o.op = .load 24 x) (hx : a.eval x = .pointer (some ⟨g, 0, none⟩)) (hb : Blk W g 24 (lcs l)) :
    (execOp a.eval o).run Tryz.prog W = .ok (.value (.agg (lcs l).toArray)) W := by
  unfold execOp
  simp only [ho, hx, Instr.loadAt, Instr.sureAddr, Sem.run_bind, Sem.run_pure, Result.andThen_ok, run_loadVar_row (P := Tryz.prog) W g 24 24 (lcs l).toArray (0, 0) _ hb Tryz.underlying24 rfl info24]
theorem run_neK {o : Oper} {a : Act} {W : World} (x y : Operand) (ty : TypeId) (ho : o.op = .binOp .neq 24 x y ty) (l m : Link) (hx : a.eval x = .agg (lcs l).toArray) (hy : a.eval y = .agg (lcs m).toArray) (b : Bool) (hq : lnkEq l m = b) :
    (execOp a.eval o).run Tryz.prog W = .ok (.value (.bool (!b))) W := by
  subst hq
  unfold execOp
  simp only [ho, hx, hy, Sem.run_bind, run_eqGuard_agg W .neq 24 x y _ _ guard24, run_neL, Sem.run_pure, Result.andThen_ok]
theorem LK.drew1 {w W : World} {L : List (Nat × Link)} (h : LK w W L) : LK w W.drew L := ⟨h.bel.drew, fun p hp => ⟨blk_drew (h.all p hp).1, (h.all p hp).2⟩⟩
theorem sB_canon {X : Link} (hs : isHttp (small X.scheme) = true) (h : WF X) (hX : sB X) (hp : X.path.length ≤ 2048) : sB (canonP X) := by
  rw [← canonR_eq X hs h]
  refine ⟨by show (small X.scheme).length ≤ _; rw [small_len]; exact hX.1, by show (small X.host).length ≤ _; rw [small_len]; exact hX.2.1, ?_, ?_, ?_, Nat.zero_le _⟩
  · show (if _ then 0 else X.port) ≤ 65535
    have := hX.2.2.1
    split <;> omega
  · show (if dotsP (normP X.path) = [] then [47] else dotsP (normP X.path)).length ≤ 100000
    have h1 := dots_len (normP X.path)
    have h2 := norm_len _ X.path (Nat.le_refl _)
    split
    · simp
    · omega
  · show (queryP X.query).length ≤ 100000
    have h1 := query_len X.query
    have := hX.2.2.2.2.1
    omega
set_option maxHeartbeats 8000000 in
set_option maxRecDepth 100000 in
theorem canons_no (s : Bs) (w : World) (hT : Tabs w) (hs : s.length ≤ 9223372036854775807) (h1 : parseP s = none) :
    Calls Tryz.prog 6 #[.string (bs s)] w fun e w' => e = .returned (.bool true) ∧ Below w.heap.size w w' := by
  have HT := Lib.hid hT
  clear hT
  have hfi := Lib.hid (first_any w HT.out)
  have hpa := Lib.hid (fun W (h : Below w.heap.size w W) => parse_val s W (HT.out.below h) hs)
  rw [err_none h1] at hpa
  generalize (parseP s).getD Link.zero = X at *
  generalize bs s = SS at *
  clear h1 hs
  have H0 := Lib.hid (LK.start w)
  go_enter Tryz.func6, Tryz.ntmps6
  go_upto_region 4 with (first | (go_at_call 13; refine hfi.out.mono ?_; rintro e w0 ⟨rfl, hb1⟩; have HA := Lib.hid (H0.out.call hb1); clear hb1) | (go_at_call 14; refine (hpa.out _ HA.out.bel).mono ?_; rintro e w1 ⟨rfl, hb1⟩; have HB := Lib.hid (HA.out.call hb1); clear hb1) | ((with_reducible refine atS 3 13 ?_); refine wpList_storeL rfl (.tmp 3) (.tmp 13) rfl w1.heap.size (lcs X).toArray (by rfl) (by rfl) zcs (new_zcs w1) rfl rfl rfl ?_; intro X1 hb1 ht1; have HC := Lib.hid (HB.out.box X rfl hb1 ht1); clear hb1 ht1))
  go_wp2_with fail
  go_ret
  exact ⟨rfl, HC.out.bel⟩
set_option maxHeartbeats 8000000 in
set_option maxRecDepth 100000 in
theorem canons_long (s : Bs) (w : World) (hT : Tabs w) (hs : s.length ≤ 9223372036854775807) (X : Link) (h1 : parseP s = some X) (h2 : 2048 < (printL (canonP X)).length) :
    Calls Tryz.prog 6 #[.string (bs s)] w fun e w' => e = .returned (.bool true) ∧ Below w.heap.size w w' := by
  have HT := Lib.hid hT
  clear hT
  have hfi := Lib.hid (first_any w HT.out)
  have hpa := Lib.hid (fun W (h : Below w.heap.size w W) => parse_val s W (HT.out.below h) hs)
  rw [h1] at hpa
  have hpa : Hid (∀ W, Below w.heap.size w W → Calls Tryz.prog 14 #[.string (bs s)] W fun e w' => e = .returned (.tuple #[.agg (lcs X).toArray, .int .i64 0]) ∧ Below W.heap.size W w') := hpa
  obtain ⟨hX, hls⟩ := sB_parse h1
  obtain ⟨_, hpr, hht, hwf⟩ := (parseP_iff s X).1 h1
  obtain ⟨hht2, hwf2, hid⟩ := canon_ok X hht hwf
  have hpth : X.path.length ≤ 2048 := by
    have := parse_path s
    rw [h1] at this
    exact this
  have hC := sB_canon hht hwf hX hpth
  have hc := Lib.hid (fun W (h : Below w.heap.size w W) => canon_any X W (HT.out.below h) hX)
  have hrc := Lib.hid (fun W (_ : Below w.heap.size w W) => rcanon_any X W hX)
  rw [canonR_eq X hht hwf] at hrc
  have hcc := Lib.hid (fun W (h : Below w.heap.size w W) => canon_any (canonP X) W (HT.out.below h) hC)
  rw [hid] at hcc
  have hpr := Lib.hid (fun W (h : Below w.heap.size w W) => print_val (canonP X) hC W (HT.out.below h))
  have hpl := (print_len (canonP X) hC).1
  have hpp := Lib.hid (fun W (h : Below w.heap.size w W) => parse_val (printL (canonP X)) W (HT.out.below h) (by omega))
  have HQ := Lib.hid (lnkEq_self (canonP X))
  have hzC := bs_size (printL (canonP X))
  have t3 : decide (((printL (canonP X)).length : Int) > 2048) = true := decide_eq_true (by omega)
  obtain ⟨E2, hE2⟩ : ∃ E, E = errI (parseP (printL (canonP X))) := ⟨_, rfl⟩
  rw [← hE2] at hpp
  generalize (parseP (printL (canonP X))).getD Link.zero = Y at *
  generalize bs (printL (canonP X)) = SC at *
  generalize bs s = SS at *
  clear h1 hs hX hls hht hwf hht2 hwf2 hid hpth hC hpl h2 hE2
  have H0 := Lib.hid (LK.start w)
  go_enter Tryz.func6, Tryz.ntmps6
  go_upto_region 4 with (first | (go_at_call 13; refine hfi.out.mono ?_; rintro e w0 ⟨rfl, hb1⟩; have HA := Lib.hid (H0.out.call hb1); clear hb1) | (go_at_call 14; refine (hpa.out _ HA.out.bel).mono ?_; rintro e w1 ⟨rfl, hb1⟩; have HB := Lib.hid (HA.out.call hb1); clear hb1) | ((with_reducible refine atS 3 13 ?_); refine wpList_storeL rfl (.tmp 3) (.tmp 13) rfl w1.heap.size (lcs X).toArray (by rfl) (by rfl) zcs (new_zcs w1) rfl rfl rfl ?_; intro X1 hb1 ht1; have HC := Lib.hid (HB.out.box X rfl hb1 ht1); clear hb1 ht1))
  go_upto_region 7 with (first | ((with_reducible refine atD 17 ?_); refine wpList_loadW (by rfl) (.tmp 3) rfl w1.heap.size (by rfl) X (HC.out.at_ (.head _)) ?_) | (go_at_call 21; refine (hc.out _ HC.out.bel).mono ?_; rintro e w2 ⟨rfl, hb1⟩; have HD := Lib.hid (HC.out.call hb1); clear hb1) | ((with_reducible refine atS 5 18 ?_); refine wpList_storeL rfl (.tmp 5) (.tmp 18) rfl w2.heap.size (lcs (canonP X)).toArray (by rfl) (by rfl) zcs (new_zcs w2) rfl rfl rfl ?_; intro X2 hb1 ht1; have HE := Lib.hid (HD.out.box (canonP X) rfl hb1 ht1); clear hb1 ht1))
  simp only [Act.put]
  refine wp_region_noPanic ?_
  refine wp_region_held_drew (S := (fun W => LK w W [(w2.heap.size, canonP X), (w1.heap.size, X)])) (by kernel_rfl) (by exact HE.out.drew1) (fun hHeld => ?_)
  refine wpAnyH_take (i := 0) (v := .agg (lcs (canonP X)).toArray) rfl (by kernel_rfl) (by kernel_rfl) (by kernel_rfl) (fun _ _ _ h => h) (Or.inl ⟨by kernel_rfl, fun W hSw => run_loadK (.tmp 5) rfl (by rfl) (LK.at_ hSw (.head _))⟩) (by assumption) ?_
  try simp only [Act.put]
  refine wpAnyH_take (i := 1) (v := .agg (lcs X).toArray) rfl (by kernel_rfl) (by kernel_rfl) (by kernel_rfl) (fun _ _ _ h => h) (Or.inl ⟨by kernel_rfl, fun W hSw => run_loadK (.tmp 3) rfl (by rfl) (LK.at_ hSw (.tail _ (.head _)))⟩) (by assumption) ?_
  try simp only [Act.put]
  refine wpAnyH_ready (rs := [2]) (by kernel_rfl) (by simp) ?_
  refine AllReadyH.cons rfl (fun KX hKX => ?_) AllReadyH.nil
  go_simp
  (refine (hrc.out _ (LK.bel hHeld)).mono ?_; rintro e w3 ⟨rfl, hb9⟩)
  refine hKX.out _ _ (by exact LK.call hHeld hb9) (fun hHeld => ?_)
  clear hKX KX
  try simp only [Act.put]
  refine wpAnyH_take (i := 3) (v := .bool false) rfl (by kernel_rfl) (by kernel_rfl) (by kernel_rfl) (fun _ _ _ h => h) (Or.inl ⟨by kernel_rfl, fun W hSw => run_neK (.tmp 19) (.tmp 21) _ rfl (canonP X) (canonP X) (by rfl) (by rfl) true HQ.out⟩) (by assumption) ?_
  try simp only [Act.put]
  refine wpAnyH_take (i := 4) (v := ?v1) rfl (by kernel_rfl) (by kernel_rfl) (by kernel_rfl) (fun _ _ _ h => h) (Or.inl ⟨by kernel_rfl, ?y1⟩) (by assumption) ?t1
  case y1 => (intro w hSw; (try dsimp only at hSw); go_simp; try with_reducible rfl)
  try simp only [Act.put]
  refine wpAnyH_take (i := 5) (v := .agg (lcs (canonP X)).toArray) rfl (by kernel_rfl) (by kernel_rfl) (by kernel_rfl) (fun _ _ _ h => h) (Or.inl ⟨by kernel_rfl, fun W hSw => run_loadK (.tmp 5) rfl (by rfl) (LK.at_ hSw (.head _))⟩) (by assumption) ?_
  try simp only [Act.put]
  refine wpAnyH_take (i := 7) (v := .agg (lcs (canonP X)).toArray) rfl (by kernel_rfl) (by kernel_rfl) (by kernel_rfl) (fun _ _ _ h => h) (Or.inl ⟨by kernel_rfl, fun W hSw => run_loadK (.tmp 5) rfl (by rfl) (LK.at_ hSw (.head _))⟩) (by assumption) ?_
  try simp only [Act.put]
  refine wpAnyH_ready (rs := [6]) (by kernel_rfl) (by simp) ?_
  refine AllReadyH.cons rfl (fun KX hKX => ?_) AllReadyH.nil
  go_simp
  (refine (hcc.out _ (LK.bel hHeld)).mono ?_; rintro e w4 ⟨rfl, hb9⟩)
  refine hKX.out _ _ (by exact LK.call hHeld hb9) (fun hHeld => ?_)
  clear hKX KX
  try simp only [Act.put]
  refine wpAnyH_take (i := 8) (v := .bool false) rfl (by kernel_rfl) (by kernel_rfl) (by kernel_rfl) (fun _ _ _ h => h) (Or.inl ⟨by kernel_rfl, fun W hSw => run_neK (.tmp 25) (.tmp 26) _ rfl (canonP X) (canonP X) (by rfl) (by rfl) true HQ.out⟩) (by assumption) ?_
  try simp only [Act.put]
  refine wpAnyH_take (i := 9) (v := ?v2) rfl (by kernel_rfl) (by kernel_rfl) (by kernel_rfl) (fun _ _ _ h => h) (Or.inl ⟨by kernel_rfl, ?y2⟩) (by assumption) ?t2
  case y2 => (intro w hSw; (try dsimp only at hSw); go_simp; try with_reducible rfl)
  try simp only [Act.put]
  refine wpAnyH_done (by kernel_rfl) ?_ _
  refine NoPanic.normal ?_
  try simp only [Act.put, List.getElem_toArray, List.getElem_cons_succ, List.getElem_cons_zero, List.setIfInBounds_toArray, List.set_cons_zero, List.set_cons_succ]
  have HF := Lib.hid hHeld
  clear hHeld
  go_wp2_with (first | ((with_reducible refine atD 30 ?_); refine wpList_loadW (by rfl) (.tmp 5) rfl w2.heap.size (by rfl) (canonP X) (HF.out.at_ (.head _)) ?_) | (go_at_call_of 16 (Value.agg (lcs (canonP X)).toArray); first | (go_at_call 16; refine (hpr.out _ HG0.out.bel).mono ?_; rintro e w8 ⟨rfl, hb1⟩; have HH := Lib.hid (HG0.out.call hb1); clear hb1) | (go_at_call 16; refine (hpr.out _ HF.out.bel).mono ?_; rintro e w5 ⟨rfl, hb1⟩; have HG := Lib.hid (HF.out.call hb1); clear hb1)) | (go_at_call 14; refine (hpp.out _ HG.out.bel).mono ?_; rintro e w6 ⟨rfl, hb1⟩; have HI := Lib.hid (HG.out.call hb1); clear hb1) | ((with_reducible refine atS 6 33 ?_); refine wpList_storeL rfl (.tmp 6) (.tmp 33) rfl w6.heap.size (lcs Y).toArray (by rfl) (by rfl) zcs (new_zcs w6) rfl rfl rfl ?_; intro X3 hb1 ht1; have HG0 := Lib.hid (HI.out.box Y rfl hb1 ht1); clear hb1 ht1) | ((with_reducible refine atD 35 ?_); refine wpList_loadW (by rfl) (.tmp 5) rfl w2.heap.size (by rfl) (canonP X) (HG0.out.at_ (.tail _ (.head _))) ?_))
  go_ret
  exact ⟨rfl, HH.out.bel⟩
set_option maxHeartbeats 8000000 in
set_option maxRecDepth 100000 in
theorem canons_back (s : Bs) (w : World) (hT : Tabs w) (hs : s.length ≤ 9223372036854775807) (X : Link) (h1 : parseP s = some X) (h2 : (printL (canonP X)).length ≤ 2048) :
    Calls Tryz.prog 6 #[.string (bs s)] w fun e w' => e = .returned (.bool true) ∧ Below w.heap.size w w' := by
  have HT := Lib.hid hT
  clear hT
  have hfi := Lib.hid (first_any w HT.out)
  have hpa := Lib.hid (fun W (h : Below w.heap.size w W) => parse_val s W (HT.out.below h) hs)
  rw [h1] at hpa
  have hpa : Hid (∀ W, Below w.heap.size w W → Calls Tryz.prog 14 #[.string (bs s)] W fun e w' => e = .returned (.tuple #[.agg (lcs X).toArray, .int .i64 0]) ∧ Below W.heap.size W w') := hpa
  obtain ⟨hX, hls⟩ := sB_parse h1
  obtain ⟨_, hpr, hht, hwf⟩ := (parseP_iff s X).1 h1
  obtain ⟨hht2, hwf2, hid⟩ := canon_ok X hht hwf
  have hpth : X.path.length ≤ 2048 := by
    have := parse_path s
    rw [h1] at this
    exact this
  have hC := sB_canon hht hwf hX hpth
  have hc := Lib.hid (fun W (h : Below w.heap.size w W) => canon_any X W (HT.out.below h) hX)
  have hrc := Lib.hid (fun W (_ : Below w.heap.size w W) => rcanon_any X W hX)
  rw [canonR_eq X hht hwf] at hrc
  have hcc := Lib.hid (fun W (h : Below w.heap.size w W) => canon_any (canonP X) W (HT.out.below h) hC)
  rw [hid] at hcc
  have hpr := Lib.hid (fun W (h : Below w.heap.size w W) => print_val (canonP X) hC W (HT.out.below h))
  have hpl := (print_len (canonP X) hC).1
  have hpp := Lib.hid (fun W (h : Below w.heap.size w W) => parse_val (printL (canonP X)) W (HT.out.below h) (by omega))
  have HQ := Lib.hid (lnkEq_self (canonP X))
  have hzC := bs_size (printL (canonP X))
  have t3 : decide (((printL (canonP X)).length : Int) > 2048) = false := decide_eq_false (by omega)
  have hback : parseP (printL (canonP X)) = some (canonP X) := (parseP_iff _ _).2 ⟨h2, rfl, hht2, hwf2⟩
  rw [hback] at hpp
  have hpp : Hid (∀ W, Below w.heap.size w W → Calls Tryz.prog 14 #[.string (bs (printL (canonP X)))] W fun e w' => e = .returned (.tuple #[.agg (lcs (canonP X)).toArray, .int .i64 0]) ∧ Below W.heap.size W w') := hpp
  generalize bs (printL (canonP X)) = SC at *
  generalize bs s = SS at *
  clear h1 hs hX hls hht hwf hht2 hwf2 hid hpth hC hpl h2 hback
  have H0 := Lib.hid (LK.start w)
  go_enter Tryz.func6, Tryz.ntmps6
  go_upto_region 4 with (first | (go_at_call 13; refine hfi.out.mono ?_; rintro e w0 ⟨rfl, hb1⟩; have HA := Lib.hid (H0.out.call hb1); clear hb1) | (go_at_call 14; refine (hpa.out _ HA.out.bel).mono ?_; rintro e w1 ⟨rfl, hb1⟩; have HB := Lib.hid (HA.out.call hb1); clear hb1) | ((with_reducible refine atS 3 13 ?_); refine wpList_storeL rfl (.tmp 3) (.tmp 13) rfl w1.heap.size (lcs X).toArray (by rfl) (by rfl) zcs (new_zcs w1) rfl rfl rfl ?_; intro X1 hb1 ht1; have HC := Lib.hid (HB.out.box X rfl hb1 ht1); clear hb1 ht1))
  go_upto_region 7 with (first | ((with_reducible refine atD 17 ?_); refine wpList_loadW (by rfl) (.tmp 3) rfl w1.heap.size (by rfl) X (HC.out.at_ (.head _)) ?_) | (go_at_call 21; refine (hc.out _ HC.out.bel).mono ?_; rintro e w2 ⟨rfl, hb1⟩; have HD := Lib.hid (HC.out.call hb1); clear hb1) | ((with_reducible refine atS 5 18 ?_); refine wpList_storeL rfl (.tmp 5) (.tmp 18) rfl w2.heap.size (lcs (canonP X)).toArray (by rfl) (by rfl) zcs (new_zcs w2) rfl rfl rfl ?_; intro X2 hb1 ht1; have HE := Lib.hid (HD.out.box (canonP X) rfl hb1 ht1); clear hb1 ht1))
  simp only [Act.put]
  refine wp_region_noPanic ?_
  refine wp_region_held_drew (S := (fun W => LK w W [(w2.heap.size, canonP X), (w1.heap.size, X)])) (by kernel_rfl) (by exact HE.out.drew1) (fun hHeld => ?_)
  refine wpAnyH_take (i := 0) (v := .agg (lcs (canonP X)).toArray) rfl (by kernel_rfl) (by kernel_rfl) (by kernel_rfl) (fun _ _ _ h => h) (Or.inl ⟨by kernel_rfl, fun W hSw => run_loadK (.tmp 5) rfl (by rfl) (LK.at_ hSw (.head _))⟩) (by assumption) ?_
  try simp only [Act.put]
  refine wpAnyH_take (i := 1) (v := .agg (lcs X).toArray) rfl (by kernel_rfl) (by kernel_rfl) (by kernel_rfl) (fun _ _ _ h => h) (Or.inl ⟨by kernel_rfl, fun W hSw => run_loadK (.tmp 3) rfl (by rfl) (LK.at_ hSw (.tail _ (.head _)))⟩) (by assumption) ?_
  try simp only [Act.put]
  refine wpAnyH_ready (rs := [2]) (by kernel_rfl) (by simp) ?_
  refine AllReadyH.cons rfl (fun KX hKX => ?_) AllReadyH.nil
  go_simp
  (refine (hrc.out _ (LK.bel hHeld)).mono ?_; rintro e w3 ⟨rfl, hb9⟩)
  refine hKX.out _ _ (by exact LK.call hHeld hb9) (fun hHeld => ?_)
  clear hKX KX
  try simp only [Act.put]
  refine wpAnyH_take (i := 3) (v := .bool false) rfl (by kernel_rfl) (by kernel_rfl) (by kernel_rfl) (fun _ _ _ h => h) (Or.inl ⟨by kernel_rfl, fun W hSw => run_neK (.tmp 19) (.tmp 21) _ rfl (canonP X) (canonP X) (by rfl) (by rfl) true HQ.out⟩) (by assumption) ?_
  try simp only [Act.put]
  refine wpAnyH_take (i := 4) (v := ?v1) rfl (by kernel_rfl) (by kernel_rfl) (by kernel_rfl) (fun _ _ _ h => h) (Or.inl ⟨by kernel_rfl, ?y1⟩) (by assumption) ?t1
  case y1 => (intro w hSw; (try dsimp only at hSw); go_simp; try with_reducible rfl)
  try simp only [Act.put]
  refine wpAnyH_take (i := 5) (v := .agg (lcs (canonP X)).toArray) rfl (by kernel_rfl) (by kernel_rfl) (by kernel_rfl) (fun _ _ _ h => h) (Or.inl ⟨by kernel_rfl, fun W hSw => run_loadK (.tmp 5) rfl (by rfl) (LK.at_ hSw (.head _))⟩) (by assumption) ?_
  try simp only [Act.put]
  refine wpAnyH_take (i := 7) (v := .agg (lcs (canonP X)).toArray) rfl (by kernel_rfl) (by kernel_rfl) (by kernel_rfl) (fun _ _ _ h => h) (Or.inl ⟨by kernel_rfl, fun W hSw => run_loadK (.tmp 5) rfl (by rfl) (LK.at_ hSw (.head _))⟩) (by assumption) ?_
  try simp only [Act.put]
  refine wpAnyH_ready (rs := [6]) (by kernel_rfl) (by simp) ?_
  refine AllReadyH.cons rfl (fun KX hKX => ?_) AllReadyH.nil
  go_simp
  (refine (hcc.out _ (LK.bel hHeld)).mono ?_; rintro e w4 ⟨rfl, hb9⟩)
  refine hKX.out _ _ (by exact LK.call hHeld hb9) (fun hHeld => ?_)
  clear hKX KX
  try simp only [Act.put]
  refine wpAnyH_take (i := 8) (v := .bool false) rfl (by kernel_rfl) (by kernel_rfl) (by kernel_rfl) (fun _ _ _ h => h) (Or.inl ⟨by kernel_rfl, fun W hSw => run_neK (.tmp 25) (.tmp 26) _ rfl (canonP X) (canonP X) (by rfl) (by rfl) true HQ.out⟩) (by assumption) ?_
  try simp only [Act.put]
  refine wpAnyH_take (i := 9) (v := ?v2) rfl (by kernel_rfl) (by kernel_rfl) (by kernel_rfl) (fun _ _ _ h => h) (Or.inl ⟨by kernel_rfl, ?y2⟩) (by assumption) ?t2
  case y2 => (intro w hSw; (try dsimp only at hSw); go_simp; try with_reducible rfl)
  try simp only [Act.put]
  refine wpAnyH_done (by kernel_rfl) ?_ _
  refine NoPanic.normal ?_
  try simp only [Act.put, List.getElem_toArray, List.getElem_cons_succ, List.getElem_cons_zero, List.setIfInBounds_toArray, List.set_cons_zero, List.set_cons_succ]
  have HF := Lib.hid hHeld
  clear hHeld
  go_wp2_with (first | ((with_reducible refine atD 30 ?_); refine wpList_loadW (by rfl) (.tmp 5) rfl w2.heap.size (by rfl) (canonP X) (HF.out.at_ (.head _)) ?_) | (go_at_call_of 16 (Value.agg (lcs (canonP X)).toArray); first | (go_at_call 16; refine (hpr.out _ HG0.out.bel).mono ?_; rintro e w8 ⟨rfl, hb1⟩; have HH := Lib.hid (HG0.out.call hb1); clear hb1) | (go_at_call 16; refine (hpr.out _ HF.out.bel).mono ?_; rintro e w5 ⟨rfl, hb1⟩; have HG := Lib.hid (HF.out.call hb1); clear hb1)) | (go_at_call 14; refine (hpp.out _ HG.out.bel).mono ?_; rintro e w6 ⟨rfl, hb1⟩; have HI := Lib.hid (HG.out.call hb1); clear hb1) | ((with_reducible refine atS 6 33 ?_); refine wpList_storeL rfl (.tmp 6) (.tmp 33) rfl w6.heap.size (lcs (canonP X)).toArray (by rfl) (by rfl) zcs (new_zcs w6) rfl rfl rfl ?_; intro X3 hb1 ht1; have HG0 := Lib.hid (HI.out.box (canonP X) rfl hb1 ht1); clear hb1 ht1) | ((with_reducible refine atD 35 ?_); refine wpList_loadW (by rfl) (.tmp 5) rfl w2.heap.size (by rfl) (canonP X) (HG0.out.at_ (.tail _ (.head _))) ?_) | ((with_reducible refine atD 43 ?_); refine wpList_loadW (by rfl) (.tmp 6) rfl w6.heap.size (by rfl) (canonP X) (HH.out.at_ (.head _)) ?_) | ((with_reducible refine atD 44 ?_); refine wpList_loadW (by rfl) (.tmp 5) rfl w2.heap.size (by rfl) (canonP X) (HH.out.at_ (.tail _ (.head _))) ?_) | ((with_reducible refine atD 45 ?_); refine wpList_eqW (by rfl) (.tmp 43) (.tmp 44) _ rfl (canonP X) (canonP X) (by rfl) (by rfl) true HQ.out ?_))
  go_ret
  exact ⟨rfl, HH.out.bel⟩
theorem canons_any (s : Bs) (w : World) (hT : Tabs w) (hs : s.length ≤ 9223372036854775807) :
    Calls Tryz.prog 6 #[.string (bs s)] w fun e w' => e = .returned (.bool true) ∧ Below w.heap.size w w' := by
  cases h1 : parseP s with
  | none => exact canons_no s w hT hs h1
  | some X =>
    by_cases h2 : (printL (canonP X)).length ≤ 2048
    · exact canons_back s w hT hs X h1 h2
    · exact canons_long s w hT hs X h1 (by omega)
end Go.Proofs.YtcpkkaimingnlaaGreatDoor
