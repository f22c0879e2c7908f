/-
  The law LinkResolves, walked.
-/
import Derived.Test.YtcpkkaimingnlaaGreatDoorRrs
set_option linter.unusedVariables false
set_option linter.unusedSimpArgs false
namespace Go.Proofs.YtcpkkaimingnlaaGreatDoor
open Go.RowKit

set_option maxHeartbeats 4000000 in
set_option maxRecDepth 100000 in
theorem resolves_a (a s : Bs) (w : World) (hT : Tabs w) (ha : a.length ≤ 9223372036854775807) (hs : s.length ≤ 9223372036854775807) (h1 : parseP a = none) :
    Calls Tryz.prog 4 #[.string (bs a), .string (bs s)] w fun e w' => e = .returned (.bool true) ∧ Below w.heap.size w w' := by
  have HT := Lib.hid hT
  clear hT
  have hza := bs_size a
  have hz := bs_size s
  have hfi := Lib.hid (first_any w HT.out)
  have hpa := Lib.hid (fun W (h : Below w.heap.size w W) => parse_val a W (HT.out.below h) ha)
  rw [err_none h1] at hpa
  generalize (parseP a).getD Link.zero = X at *
  clear h1 ha hs
  generalize bs a = SA at *
  generalize bs s = SS at *
  have H0 := Lib.hid (LK.start w)
  go_enter Tryz.func4, Tryz.ntmps4
  go_upto_region 4 with (first | (go_at_call 13; refine hfi.out.mono ?_; rintro e w0 ⟨rfl, hb1⟩; have HA := Lib.hid (H0.out.call hb1); clear hb1) | (go_at_call 14; refine (hpa.out _ HA.out.bel).mono ?_; rintro e w1 ⟨rfl, hb1⟩; have HB := Lib.hid (HA.out.call hb1); clear hb1) | ((with_reducible refine atS 5 16 ?_); refine wpList_storeL rfl (.tmp 5) (.tmp 16) rfl w1.heap.size (lcs X).toArray (by rfl) (by rfl) zcs (new_zcs w1) rfl rfl rfl ?_; intro X1 hb1 ht1; have HC := Lib.hid (HB.out.box X rfl hb1 ht1); clear hb1 ht1))
  go_wp2_with fail
  go_ret
  exact ⟨rfl, HC.out.bel⟩
set_option maxHeartbeats 4000000 in
set_option maxRecDepth 100000 in
theorem resolves_s (a s : Bs) (w : World) (hT : Tabs w) (ha : a.length ≤ 9223372036854775807) (hs : s.length ≤ 9223372036854775807) (X : Link) (h1 : parseP a = some X) (h3 : 3000 < s.length) :
    Calls Tryz.prog 4 #[.string (bs a), .string (bs s)] w fun e w' => e = .returned (.bool true) ∧ Below w.heap.size w w' := by
  have HT := Lib.hid hT
  clear hT
  have hza := bs_size a
  have hz := bs_size s
  have hfi := Lib.hid (first_any w HT.out)
  have hpa := Lib.hid (fun W (h : Below w.heap.size w W) => parse_val a W (HT.out.below h) ha)
  rw [h1] at hpa
  have hpa : Hid (∀ W, Below w.heap.size w W → Calls Tryz.prog 14 #[.string (bs a)] W fun e w' => e = .returned (.tuple #[.agg (lcs X).toArray, .int .i64 0]) ∧ Below W.heap.size W w') := hpa
  obtain ⟨hX, hla⟩ := sB_parse h1
  have tm : decide (max (a.length : Int) (s.length : Int) > 3000) = true := by
    rw [decide_eq_true_eq]
    omega
  have tm2 : decide (3000 < max a.length s.length) = true := by
    rw [decide_eq_true_eq]
    omega
  have tm3 : decide ((3000 : Int) < max (a.length : Int) (s.length : Int)) = true := by
    rw [decide_eq_true_eq]
    omega
  clear h1 ha hX hla hs h3
  generalize bs a = SA at *
  generalize bs s = SS at *
  have H0 := Lib.hid (LK.start w)
  go_enter Tryz.func4, Tryz.ntmps4
  go_upto_region 4 with (first | (go_at_call 13; refine hfi.out.mono ?_; rintro e w0 ⟨rfl, hb1⟩; have HA := Lib.hid (H0.out.call hb1); clear hb1) | (go_at_call 14; refine (hpa.out _ HA.out.bel).mono ?_; rintro e w1 ⟨rfl, hb1⟩; have HB := Lib.hid (HA.out.call hb1); clear hb1) | ((with_reducible refine atS 5 16 ?_); refine wpList_storeL rfl (.tmp 5) (.tmp 16) rfl w1.heap.size (lcs X).toArray (by rfl) (by rfl) zcs (new_zcs w1) rfl rfl rfl ?_; intro X1 hb1 ht1; have HC := Lib.hid (HB.out.box X rfl hb1 ht1); clear hb1 ht1))
  go_wp2_with fail
  go_ret
  exact ⟨rfl, HC.out.bel⟩
set_option maxHeartbeats 4000000 in
set_option maxRecDepth 100000 in
theorem resolves_no (a s : Bs) (w : World) (hT : Tabs w) (ha : a.length ≤ 9223372036854775807) (hs : s.length ≤ 9223372036854775807) (X : Link) (h1 : parseP a = some X) (h3 : s.length ≤ 3000) (h4 : resolveP X s = none) :
    Calls Tryz.prog 4 #[.string (bs a), .string (bs s)] w fun e w' => e = .returned (.bool true) ∧ Below w.heap.size w w' := by
  have HT := Lib.hid hT
  clear hT
  have hza := bs_size a
  have hz := bs_size s
  have hfi := Lib.hid (first_any w HT.out)
  have hpa := Lib.hid (fun W (h : Below w.heap.size w W) => parse_val a W (HT.out.below h) ha)
  rw [h1] at hpa
  have hpa : Hid (∀ W, Below w.heap.size w W → Calls Tryz.prog 14 #[.string (bs a)] W fun e w' => e = .returned (.tuple #[.agg (lcs X).toArray, .int .i64 0]) ∧ Below W.heap.size W w') := hpa
  obtain ⟨hX, hla⟩ := sB_parse h1
  have hr1 := Lib.hid (fun W (h : Below w.heap.size w W) => resolve_any X s W (HT.out.below h) hX (by omega))
  have hr2 := Lib.hid (fun W (_ : Below w.heap.size w W) => rresolve_any X s W hX (by omega))
  rw [h4] at hr1 hr2
  have hr1 : Hid (∀ W, Below w.heap.size w W → Calls Tryz.prog 17 #[.agg (lcs X).toArray, .string (bs s)] W fun e w' => e = .returned (.tuple #[.agg (lcs Link.zero).toArray, .int .i64 40]) ∧ Below W.heap.size W w') := hr1
  have hr2 : Hid (∀ W, Below w.heap.size w W → Calls Tryz.prog 18 #[.agg (lcs X).toArray, .string (bs s)] W fun e w' => e = .returned (.tuple #[.agg (lcs Link.zero).toArray, .bool false]) ∧ Below W.heap.size W w') := hr2
  have HQ := Lib.hid (lnkEq_self Link.zero)
  have tm : decide (max (a.length : Int) (s.length : Int) > 3000) = false := by
    rw [decide_eq_false_iff_not]
    omega
  have tm2 : decide (3000 < max a.length s.length) = false := by
    rw [decide_eq_false_iff_not]
    omega
  have tm3 : decide ((3000 : Int) < max (a.length : Int) (s.length : Int)) = false := by
    rw [decide_eq_false_iff_not]
    omega
  clear h1 ha hX hla hs h3 h4
  generalize bs a = SA at *
  generalize bs s = SS at *
  have H0 := Lib.hid (LK.start w)
  go_enter Tryz.func4, Tryz.ntmps4
  go_upto_region 4 with (first | (go_at_call 13; refine hfi.out.mono ?_; rintro e w0 ⟨rfl, hb1⟩; have HA := Lib.hid (H0.out.call hb1); clear hb1) | (go_at_call 14; refine (hpa.out _ HA.out.bel).mono ?_; rintro e w1 ⟨rfl, hb1⟩; have HB := Lib.hid (HA.out.call hb1); clear hb1) | ((with_reducible refine atS 5 16 ?_); refine wpList_storeL rfl (.tmp 5) (.tmp 16) rfl w1.heap.size (lcs X).toArray (by rfl) (by rfl) zcs (new_zcs w1) rfl rfl rfl ?_; intro X1 hb1 ht1; have HC := Lib.hid (HB.out.box X rfl hb1 ht1); clear hb1 ht1))
  go_upto_region 7 with (first | ((with_reducible refine atD 29 ?_); refine wpList_loadW (by rfl) (.tmp 5) rfl w1.heap.size (by rfl) X (HC.out.at_ (.head _)) ?_) | (go_at_call 17; refine (hr1.out _ HC.out.bel).mono ?_; rintro e w2 ⟨rfl, hb1⟩; have HD := Lib.hid (HC.out.call hb1); clear hb1) | ((with_reducible refine atS 7 32 ?_); refine wpList_storeL rfl (.tmp 7) (.tmp 32) rfl w2.heap.size (lcs Link.zero).toArray (by rfl) (by rfl) zcs (new_zcs w2) rfl rfl rfl ?_; intro X2 hb1 ht1; have HE := Lib.hid (HD.out.box Link.zero rfl hb1 ht1); clear hb1 ht1))
  go_upto_region 8 with (first | ((with_reducible refine atD 35 ?_); refine wpList_loadW (by rfl) (.tmp 5) rfl w1.heap.size (by rfl) X (HE.out.at_ (.tail _ (.head _))) ?_) | (go_at_call 18; refine (hr2.out _ HE.out.bel).mono ?_; rintro e w3 ⟨rfl, hb1⟩; have HF := Lib.hid (HE.out.call hb1); clear hb1) | ((with_reducible refine atS 9 38 ?_); refine wpList_storeL rfl (.tmp 9) (.tmp 38) rfl w3.heap.size (lcs Link.zero).toArray (by rfl) (by rfl) zcs (new_zcs w3) rfl rfl rfl ?_; intro X3 hb1 ht1; have HG := Lib.hid (HF.out.box Link.zero rfl hb1 ht1); clear hb1 ht1))
  clear hr1 hr2 HA HB HC HD HE HF
  go_wp2_with (first | ((with_reducible refine atD 40 ?_); refine wpList_loadW (by rfl) (.tmp 7) rfl w2.heap.size (by rfl) Link.zero (HG.out.at_ (.tail _ (.head _))) ?_) | ((with_reducible refine atD 41 ?_); refine wpList_loadW (by rfl) (.tmp 9) rfl w3.heap.size (by rfl) Link.zero (HG.out.at_ (.head _)) ?_) | ((with_reducible refine atD 42 ?_); refine wpList_eqW (by rfl) (.tmp 40) (.tmp 41) _ rfl Link.zero Link.zero (by rfl) (by rfl) true HQ.out ?_))
  go_ret
  exact ⟨rfl, HG.out.bel⟩
set_option maxHeartbeats 4000000 in
set_option maxRecDepth 100000 in
theorem resolves_yes (a s : Bs) (w : World) (hT : Tabs w) (ha : a.length ≤ 9223372036854775807) (hs : s.length ≤ 9223372036854775807) (X : Link) (h1 : parseP a = some X) (h3 : s.length ≤ 3000) (R : Link) (h4 : resolveP X s = some R) :
    Calls Tryz.prog 4 #[.string (bs a), .string (bs s)] w fun e w' => e = .returned (.bool true) ∧ Below w.heap.size w w' := by
  have HT := Lib.hid hT
  clear hT
  have hza := bs_size a
  have hz := bs_size s
  have hfi := Lib.hid (first_any w HT.out)
  have hpa := Lib.hid (fun W (h : Below w.heap.size w W) => parse_val a W (HT.out.below h) ha)
  rw [h1] at hpa
  have hpa : Hid (∀ W, Below w.heap.size w W → Calls Tryz.prog 14 #[.string (bs a)] W fun e w' => e = .returned (.tuple #[.agg (lcs X).toArray, .int .i64 0]) ∧ Below W.heap.size W w') := hpa
  obtain ⟨hX, hla⟩ := sB_parse h1
  have hr1 := Lib.hid (fun W (h : Below w.heap.size w W) => resolve_any X s W (HT.out.below h) hX (by omega))
  have hr2 := Lib.hid (fun W (_ : Below w.heap.size w W) => rresolve_any X s W hX (by omega))
  rw [h4] at hr1 hr2
  have hr1 : Hid (∀ W, Below w.heap.size w W → Calls Tryz.prog 17 #[.agg (lcs X).toArray, .string (bs s)] W fun e w' => e = .returned (.tuple #[.agg (lcs R).toArray, .int .i64 0]) ∧ Below W.heap.size W w') := hr1
  have hr2 : Hid (∀ W, Below w.heap.size w W → Calls Tryz.prog 18 #[.agg (lcs X).toArray, .string (bs s)] W fun e w' => e = .returned (.tuple #[.agg (lcs R).toArray, .bool true]) ∧ Below W.heap.size W w') := hr2
  have HQ := Lib.hid (lnkEq_self R)
  have tm : decide (max (a.length : Int) (s.length : Int) > 3000) = false := by
    rw [decide_eq_false_iff_not]
    omega
  have tm2 : decide (3000 < max a.length s.length) = false := by
    rw [decide_eq_false_iff_not]
    omega
  have tm3 : decide ((3000 : Int) < max (a.length : Int) (s.length : Int)) = false := by
    rw [decide_eq_false_iff_not]
    omega
  clear h1 ha hX hla hs h3 h4
  generalize bs a = SA at *
  generalize bs s = SS at *
  have H0 := Lib.hid (LK.start w)
  go_enter Tryz.func4, Tryz.ntmps4
  go_upto_region 4 with (first | (go_at_call 13; refine hfi.out.mono ?_; rintro e w0 ⟨rfl, hb1⟩; have HA := Lib.hid (H0.out.call hb1); clear hb1) | (go_at_call 14; refine (hpa.out _ HA.out.bel).mono ?_; rintro e w1 ⟨rfl, hb1⟩; have HB := Lib.hid (HA.out.call hb1); clear hb1) | ((with_reducible refine atS 5 16 ?_); refine wpList_storeL rfl (.tmp 5) (.tmp 16) rfl w1.heap.size (lcs X).toArray (by rfl) (by rfl) zcs (new_zcs w1) rfl rfl rfl ?_; intro X1 hb1 ht1; have HC := Lib.hid (HB.out.box X rfl hb1 ht1); clear hb1 ht1))
  go_upto_region 7 with (first | ((with_reducible refine atD 29 ?_); refine wpList_loadW (by rfl) (.tmp 5) rfl w1.heap.size (by rfl) X (HC.out.at_ (.head _)) ?_) | (go_at_call 17; refine (hr1.out _ HC.out.bel).mono ?_; rintro e w2 ⟨rfl, hb1⟩; have HD := Lib.hid (HC.out.call hb1); clear hb1) | ((with_reducible refine atS 7 32 ?_); refine wpList_storeL rfl (.tmp 7) (.tmp 32) rfl w2.heap.size (lcs R).toArray (by rfl) (by rfl) zcs (new_zcs w2) rfl rfl rfl ?_; intro X2 hb1 ht1; have HE := Lib.hid (HD.out.box R rfl hb1 ht1); clear hb1 ht1))
  go_upto_region 8 with (first | ((with_reducible refine atD 35 ?_); refine wpList_loadW (by rfl) (.tmp 5) rfl w1.heap.size (by rfl) X (HE.out.at_ (.tail _ (.head _))) ?_) | (go_at_call 18; refine (hr2.out _ HE.out.bel).mono ?_; rintro e w3 ⟨rfl, hb1⟩; have HF := Lib.hid (HE.out.call hb1); clear hb1) | ((with_reducible refine atS 9 38 ?_); refine wpList_storeL rfl (.tmp 9) (.tmp 38) rfl w3.heap.size (lcs R).toArray (by rfl) (by rfl) zcs (new_zcs w3) rfl rfl rfl ?_; intro X3 hb1 ht1; have HG := Lib.hid (HF.out.box R rfl hb1 ht1); clear hb1 ht1))
  clear hr1 hr2 HA HB HC HD HE HF
  go_wp2_with (first | ((with_reducible refine atD 40 ?_); refine wpList_loadW (by rfl) (.tmp 7) rfl w2.heap.size (by rfl) R (HG.out.at_ (.tail _ (.head _))) ?_) | ((with_reducible refine atD 41 ?_); refine wpList_loadW (by rfl) (.tmp 9) rfl w3.heap.size (by rfl) R (HG.out.at_ (.head _)) ?_) | ((with_reducible refine atD 42 ?_); refine wpList_eqW (by rfl) (.tmp 40) (.tmp 41) _ rfl R R (by rfl) (by rfl) true HQ.out ?_))
  go_ret
  exact ⟨rfl, HG.out.bel⟩
theorem resolves_any (a s : Bs) (w : World) (hT : Tabs w) (ha : a.length ≤ 9223372036854775807) (hs : s.length ≤ 9223372036854775807) :
    Calls Tryz.prog 4 #[.string (bs a), .string (bs s)] w fun e w' => e = .returned (.bool true) ∧ Below w.heap.size w w' := by
  cases h1 : parseP a with
  | none => exact resolves_a a s w hT ha hs h1
  | some X =>
    by_cases h3 : 3000 < s.length
    · exact resolves_s a s w hT ha hs X h1 h3
    · cases h4 : resolveP X s with
      | none => exact resolves_no a s w hT ha hs X h1 (by omega) h4
      | some R => exact resolves_yes a s w hT ha hs X h1 (by omega) R h4
end Go.Proofs.YtcpkkaimingnlaaGreatDoor
