/-
  The law LinkAgain, walked.
-/
import Derived.Test.YtcpkkaimingnlaaGreatDoorMG
import Derived.Test.YtcpkkaimingnlaaGreatDoorMF
set_option linter.unusedVariables false
set_option linter.unusedSimpArgs false
namespace Go.Proofs.YtcpkkaimingnlaaGreatDoor
open Go.RowKit

theorem sB_parse {s : Bs} {l : Link} (h : parseP s = some l) : sB l ∧ s.length ≤ 2048 := by
  obtain ⟨h1, h2, _, h4⟩ := (parseP_iff s l).1 h
  have hl := congrArg List.length h2
  unfold printL originL at hl
  simp only [List.length_append] at hl
  refine ⟨⟨by omega, by omega, h4.port, by omega, ?_, ?_⟩, h1⟩
  · cases hq : l.hasQ with
    | false => rw [h4.noQ hq]; exact Nat.zero_le _
    | true => unfold qT at hl; rw [if_pos hq] at hl; simp only [List.length_cons] at hl; omega
  · cases hq : l.hasF with
    | false => rw [h4.noF hq]; exact Nat.zero_le _
    | true => unfold fT at hl; rw [if_pos hq] at hl; simp only [List.length_cons] at hl; omega
theorem sB_zero : sB Link.zero := by unfold sB; decide
theorem sB_get (s : Bs) : sB ((parseP s).getD Link.zero) := by
  cases h : parseP s with
  | none => exact sB_zero
  | some l => exact (sB_parse h).1
theorem err_none {r : Option Link} (h : r = none) : errI r = 40 := by rw [h]; rfl
theorem err_some {r : Option Link} {l : Link} (h : r = some l) : errI r = 0 := by rw [h]; rfl
set_option maxHeartbeats 4000000 in
set_option maxRecDepth 100000 in
theorem again_a (a b s : Bs) (w : World) (hT : Tabs w) (ha : a.length ≤ 9223372036854775807) (hb : b.length ≤ 9223372036854775807) (hs : s.length ≤ 9223372036854775807) (h1 : parseP a = none) :
    Calls Tryz.prog 7 #[.string (bs a), .string (bs b), .string (bs s)] w fun e w' => e = .returned (.bool true) ∧ Below w.heap.size w w' := by
  have HT := Lib.hid hT
  clear hT
  have hz := bs_size s
  have hfi := Lib.hid (first_any w HT.out)
  have hpa := Lib.hid (fun W (h : Below w.heap.size w W) => parse_val a W (HT.out.below h) ha)
  have hpb := Lib.hid (fun W (h : Below w.heap.size w W) => parse_val b W (HT.out.below h) hb)
  rw [err_none h1] at hpa
  generalize (parseP a).getD Link.zero = X at *
  generalize (parseP b).getD Link.zero = Y at *
  generalize errI (parseP b) = EB at *
  clear h1 ha hb hs
  generalize bs a = SA at *
  generalize bs b = SB at *
  generalize bs s = SS at *
  have H0 := Lib.hid (LK.start w)
  go_enter Tryz.func7, Tryz.ntmps7
  go_upto_region 5 with (first | (go_at_call 13; refine hfi.out.mono ?_; rintro e w0 ⟨rfl, hb1⟩; have HA := Lib.hid (H0.out.call hb1); clear hb1) | (go_at_call_of 14 (Value.string SA); refine (hpa.out _ HA.out.bel).mono ?_; rintro e w1 ⟨rfl, hb1⟩; have HB := Lib.hid (HA.out.call hb1); clear hb1) | ((with_reducible refine atS 7 25 ?_); refine wpList_storeL rfl (.tmp 7) (.tmp 25) rfl w1.heap.size (lcs X).toArray (by rfl) (by rfl) zcs (new_zcs w1) rfl rfl rfl ?_; intro X1 hb1 ht1; have HC := Lib.hid (HB.out.box X rfl hb1 ht1); clear hb1 ht1) | (go_at_call_of 14 (Value.string SB); refine (hpb.out _ HC.out.bel).mono ?_; rintro e w2 ⟨rfl, hb1⟩; have HD := Lib.hid (HC.out.call hb1); clear hb1) | ((with_reducible refine atS 9 30 ?_); refine wpList_storeL rfl (.tmp 9) (.tmp 30) rfl w2.heap.size (lcs Y).toArray (by rfl) (by rfl) zcs (new_zcs w2) rfl rfl rfl ?_; intro X2 hb1 ht1; have HE := Lib.hid (HD.out.box Y rfl hb1 ht1); clear hb1 ht1))
  go_wp2_with fail
  go_ret
  exact ⟨rfl, HE.out.bel⟩
set_option maxHeartbeats 4000000 in
set_option maxRecDepth 100000 in
theorem again_b (a b s : Bs) (w : World) (hT : Tabs w) (ha : a.length ≤ 9223372036854775807) (hb : b.length ≤ 9223372036854775807) (hs : s.length ≤ 9223372036854775807) (X : Link) (h1 : parseP a = some X) (h2 : parseP b = none) :
    Calls Tryz.prog 7 #[.string (bs a), .string (bs b), .string (bs s)] w fun e w' => e = .returned (.bool true) ∧ Below w.heap.size w w' := by
  have HT := Lib.hid hT
  clear hT
  have hz := bs_size s
  have hfi := Lib.hid (first_any w HT.out)
  have hpa := Lib.hid (fun W (h : Below w.heap.size w W) => parse_val a W (HT.out.below h) ha)
  have hpb := Lib.hid (fun W (h : Below w.heap.size w W) => parse_val b W (HT.out.below h) hb)
  rw [err_none h2] at hpb
  rw [h1] at hpa
  have hpa : Hid (∀ W, Below w.heap.size w W → Calls Tryz.prog 14 #[.string (bs a)] W fun e w' => e = .returned (.tuple #[.agg (lcs X).toArray, .int .i64 0]) ∧ Below W.heap.size W w') := hpa
  generalize (parseP b).getD Link.zero = Y at *
  clear h1 h2 ha hb hs
  generalize bs a = SA at *
  generalize bs b = SB at *
  generalize bs s = SS at *
  have H0 := Lib.hid (LK.start w)
  go_enter Tryz.func7, Tryz.ntmps7
  go_upto_region 5 with (first | (go_at_call 13; refine hfi.out.mono ?_; rintro e w0 ⟨rfl, hb1⟩; have HA := Lib.hid (H0.out.call hb1); clear hb1) | (go_at_call_of 14 (Value.string SA); refine (hpa.out _ HA.out.bel).mono ?_; rintro e w1 ⟨rfl, hb1⟩; have HB := Lib.hid (HA.out.call hb1); clear hb1) | ((with_reducible refine atS 7 25 ?_); refine wpList_storeL rfl (.tmp 7) (.tmp 25) rfl w1.heap.size (lcs X).toArray (by rfl) (by rfl) zcs (new_zcs w1) rfl rfl rfl ?_; intro X1 hb1 ht1; have HC := Lib.hid (HB.out.box X rfl hb1 ht1); clear hb1 ht1) | (go_at_call_of 14 (Value.string SB); refine (hpb.out _ HC.out.bel).mono ?_; rintro e w2 ⟨rfl, hb1⟩; have HD := Lib.hid (HC.out.call hb1); clear hb1) | ((with_reducible refine atS 9 30 ?_); refine wpList_storeL rfl (.tmp 9) (.tmp 30) rfl w2.heap.size (lcs Y).toArray (by rfl) (by rfl) zcs (new_zcs w2) rfl rfl rfl ?_; intro X2 hb1 ht1; have HE := Lib.hid (HD.out.box Y rfl hb1 ht1); clear hb1 ht1))
  go_wp2_with fail
  go_ret
  exact ⟨rfl, HE.out.bel⟩
set_option maxHeartbeats 4000000 in
set_option maxRecDepth 100000 in
theorem again_s (a b s : Bs) (w : World) (hT : Tabs w) (ha : a.length ≤ 9223372036854775807) (hb : b.length ≤ 9223372036854775807) (hs : s.length ≤ 9223372036854775807) (X Y : Link) (h1 : parseP a = some X) (h2 : parseP b = some Y) (h3 : 3000 < s.length) :
    Calls Tryz.prog 7 #[.string (bs a), .string (bs b), .string (bs s)] w fun e w' => e = .returned (.bool true) ∧ Below w.heap.size w w' := by
  have HT := Lib.hid hT
  clear hT
  have hz := bs_size s
  have hfi := Lib.hid (first_any w HT.out)
  have hpa := Lib.hid (fun W (h : Below w.heap.size w W) => parse_val a W (HT.out.below h) ha)
  have hpb := Lib.hid (fun W (h : Below w.heap.size w W) => parse_val b W (HT.out.below h) hb)
  rw [h1] at hpa
  rw [h2] at hpb
  have hpa : Hid (∀ W, Below w.heap.size w W → Calls Tryz.prog 14 #[.string (bs a)] W fun e w' => e = .returned (.tuple #[.agg (lcs X).toArray, .int .i64 0]) ∧ Below W.heap.size W w') := hpa
  have hpb : Hid (∀ W, Below w.heap.size w W → Calls Tryz.prog 14 #[.string (bs b)] W fun e w' => e = .returned (.tuple #[.agg (lcs Y).toArray, .int .i64 0]) ∧ Below W.heap.size W w') := hpb
  clear h1 h2 ha hb
  have t3 : decide ((s.length : Int) > 3000) = true := decide_eq_true (by omega)
  generalize bs a = SA at *
  generalize bs b = SB at *
  generalize bs s = SS at *
  have H0 := Lib.hid (LK.start w)
  go_enter Tryz.func7, Tryz.ntmps7
  go_upto_region 5 with (first | (go_at_call 13; refine hfi.out.mono ?_; rintro e w0 ⟨rfl, hb1⟩; have HA := Lib.hid (H0.out.call hb1); clear hb1) | (go_at_call_of 14 (Value.string SA); refine (hpa.out _ HA.out.bel).mono ?_; rintro e w1 ⟨rfl, hb1⟩; have HB := Lib.hid (HA.out.call hb1); clear hb1) | ((with_reducible refine atS 7 25 ?_); refine wpList_storeL rfl (.tmp 7) (.tmp 25) rfl w1.heap.size (lcs X).toArray (by rfl) (by rfl) zcs (new_zcs w1) rfl rfl rfl ?_; intro X1 hb1 ht1; have HC := Lib.hid (HB.out.box X rfl hb1 ht1); clear hb1 ht1) | (go_at_call_of 14 (Value.string SB); refine (hpb.out _ HC.out.bel).mono ?_; rintro e w2 ⟨rfl, hb1⟩; have HD := Lib.hid (HC.out.call hb1); clear hb1) | ((with_reducible refine atS 9 30 ?_); refine wpList_storeL rfl (.tmp 9) (.tmp 30) rfl w2.heap.size (lcs Y).toArray (by rfl) (by rfl) zcs (new_zcs w2) rfl rfl rfl ?_; intro X2 hb1 ht1; have HE := Lib.hid (HD.out.box Y rfl hb1 ht1); clear hb1 ht1))
  go_wp2_with fail
  go_ret
  exact ⟨rfl, HE.out.bel⟩
set_option maxHeartbeats 4000000 in
set_option maxRecDepth 100000 in
theorem again_no (a b s : Bs) (w : World) (hT : Tabs w) (ha : a.length ≤ 9223372036854775807) (hb : b.length ≤ 9223372036854775807) (hs : s.length ≤ 9223372036854775807) (X Y : Link) (h1 : parseP a = some X) (h2 : parseP b = some Y) (h3 : s.length ≤ 3000) (h4 : resolveP X s = none) :
    Calls Tryz.prog 7 #[.string (bs a), .string (bs b), .string (bs s)] w fun e w' => e = .returned (.bool true) ∧ Below w.heap.size w w' := by
  have HT := Lib.hid hT
  clear hT
  have hz := bs_size s
  have hfi := Lib.hid (first_any w HT.out)
  have hpa := Lib.hid (fun W (h : Below w.heap.size w W) => parse_val a W (HT.out.below h) ha)
  have hpb := Lib.hid (fun W (h : Below w.heap.size w W) => parse_val b W (HT.out.below h) hb)
  rw [h1] at hpa
  rw [h2] at hpb
  have hpa : Hid (∀ W, Below w.heap.size w W → Calls Tryz.prog 14 #[.string (bs a)] W fun e w' => e = .returned (.tuple #[.agg (lcs X).toArray, .int .i64 0]) ∧ Below W.heap.size W w') := hpa
  have hpb : Hid (∀ W, Below w.heap.size w W → Calls Tryz.prog 14 #[.string (bs b)] W fun e w' => e = .returned (.tuple #[.agg (lcs Y).toArray, .int .i64 0]) ∧ Below W.heap.size W w') := hpb
  obtain ⟨hX, hla⟩ := sB_parse h1
  obtain ⟨hY, hlb⟩ := sB_parse h2
  have t3 : decide ((s.length : Int) > 3000) = false := decide_eq_false (by omega)
  have hrb := Lib.hid (fun W (h : Below w.heap.size w W) => resolve_any X b W (HT.out.below h) hX (by omega))
  have hre := Lib.hid (fun W (h : Below w.heap.size w W) => resolve_any X [] W (HT.out.below h) hX (by simp))
  have hrs := Lib.hid (fun W (h : Below w.heap.size w W) => resolve_any X s W (HT.out.below h) hX (by omega))
  rw [resolve_whole h2] at hrb
  rw [resolve_empty h1] at hre
  have hrb : Hid (∀ W, Below w.heap.size w W → Calls Tryz.prog 17 #[.agg (lcs X).toArray, .string (bs b)] W fun e w' => e = .returned (.tuple #[.agg (lcs Y).toArray, .int .i64 0]) ∧ Below W.heap.size W w') := hrb
  have hre : Hid (∀ W, Below w.heap.size w W → Calls Tryz.prog 17 #[.agg (lcs X).toArray, .string ⟨#[]⟩] W fun e w' => e = .returned (.tuple #[.agg (lcs (bareF X)).toArray, .int .i64 0]) ∧ Below W.heap.size W w') := hre
  have HQY := Lib.hid (lnkEq_self Y)
  have HQX := Lib.hid (lnkEq_self (bareF X))
  rw [h4] at hrs
  have hrs : Hid (∀ W, Below w.heap.size w W → Calls Tryz.prog 17 #[.agg (lcs X).toArray, .string (bs s)] W fun e w' => e = .returned (.tuple #[.agg (lcs Link.zero).toArray, .int .i64 40]) ∧ Below W.heap.size W w') := hrs
  have HQZ := Lib.hid (lnkEq_self Link.zero)
  clear h1 h2 h4 ha hb hs h3 hla hlb hX hY
  generalize bs a = SA at *
  generalize bs b = SB at *
  generalize bs s = SS at *
  have H0 := Lib.hid (LK.start w)
  go_enter Tryz.func7, Tryz.ntmps7
  go_upto_region 5 with (first | (go_at_call 13; refine hfi.out.mono ?_; rintro e w0 ⟨rfl, hb1⟩; have HA := Lib.hid (H0.out.call hb1); clear hb1) | (go_at_call_of 14 (Value.string SA); refine (hpa.out _ HA.out.bel).mono ?_; rintro e w1 ⟨rfl, hb1⟩; have HB := Lib.hid (HA.out.call hb1); clear hb1) | ((with_reducible refine atS 7 25 ?_); refine wpList_storeL rfl (.tmp 7) (.tmp 25) rfl w1.heap.size (lcs X).toArray (by rfl) (by rfl) zcs (new_zcs w1) rfl rfl rfl ?_; intro X1 hb1 ht1; have HC := Lib.hid (HB.out.box X rfl hb1 ht1); clear hb1 ht1) | (go_at_call_of 14 (Value.string SB); refine (hpb.out _ HC.out.bel).mono ?_; rintro e w2 ⟨rfl, hb1⟩; have HD := Lib.hid (HC.out.call hb1); clear hb1) | ((with_reducible refine atS 9 30 ?_); refine wpList_storeL rfl (.tmp 9) (.tmp 30) rfl w2.heap.size (lcs Y).toArray (by rfl) (by rfl) zcs (new_zcs w2) rfl rfl rfl ?_; intro X2 hb1 ht1; have HE := Lib.hid (HD.out.box Y rfl hb1 ht1); clear hb1 ht1))
  go_upto_region 8 with (first | ((with_reducible refine atD 44 ?_); refine wpList_loadW (by rfl) (.tmp 7) rfl w1.heap.size (by rfl) X (HE.out.at_ (.tail _ (.head _))) ?_) | (go_at_call 17; refine (hrb.out _ HE.out.bel).mono ?_; rintro e w3 ⟨rfl, hb1⟩; have HF := Lib.hid (HE.out.call hb1); clear hb1) | ((with_reducible refine atS 11 47 ?_); refine wpList_storeL rfl (.tmp 11) (.tmp 47) rfl w3.heap.size (lcs Y).toArray (by rfl) (by rfl) zcs (new_zcs w3) rfl rfl rfl ?_; intro X3 hb1 ht1; have HG := Lib.hid (HF.out.box Y rfl hb1 ht1); clear hb1 ht1))
  clear hrb HA HB HC HD HE HF
  go_upto_region 9 with (first | ((with_reducible refine atD 50 ?_); refine wpList_loadW (by rfl) (.tmp 7) rfl w1.heap.size (by rfl) X (HG.out.at_ (.tail _ (.tail _ (.head _)))) ?_) | (go_at_call 17; refine (hre.out _ HG.out.bel).mono ?_; rintro e w4 ⟨rfl, hb1⟩; have HH := Lib.hid (HG.out.call hb1); clear hb1) | ((with_reducible refine atS 13 52 ?_); refine wpList_storeL rfl (.tmp 13) (.tmp 52) rfl w4.heap.size (lcs (bareF X)).toArray (by rfl) (by rfl) zcs (new_zcs w4) rfl rfl rfl ?_; intro X4 hb1 ht1; have HI := Lib.hid (HH.out.box (bareF X) rfl hb1 ht1); clear hb1 ht1))
  clear hre HG HH
  have eb : ((lcs X).set 5 (.string ⟨#[]⟩)).set 7 (.bool false) = lcs (bareF X) := rfl
  have HEB := Lib.hid eb
  clear eb
  go_upto_region 10 with (first | ((with_reducible refine atD 54 ?_); refine wpList_loadW (by rfl) (.tmp 7) rfl w1.heap.size (by rfl) X (HI.out.at_ (.tail _ (.tail _ (.tail _ (.head _))))) ?_) | ((with_reducible refine atS 15 54 ?_); refine wpList_storeL rfl (.tmp 15) (.tmp 54) rfl X4.heap.size (lcs X).toArray (by rfl) (by rfl) zcs (new_zcs X4) rfl rfl rfl ?_; intro X5 hb1 ht1; have HJ := Lib.hid (HI.out.box X rfl hb1 ht1); clear hb1 ht1))
  go_upto_region 11 with (first | ((with_reducible refine atC 55 ?_); refine wpList_storeC rfl 9 (.tmp 55) (.const (.string ⟨#[]⟩)) rfl X4.heap.size 5 (.string ⟨#[]⟩) (by rfl) (by rfl) rfl info9 24 _ (HJ.out.at_ (.head _)) (by exact Nat.le_of_ble_eq_true rfl) ?_; intro X6 hb1 ht1; have HB6 := Lib.hid hb1; have HT6 := Lib.hid ht1; clear hb1 ht1) | ((with_reducible refine atC 56 ?_); refine wpList_storeC rfl 4 (.tmp 56) (.const (.bool false)) rfl X4.heap.size 7 (.bool false) (by rfl) (by rfl) rfl info4 24 _ HB6.out (by exact Nat.le_of_ble_eq_true rfl) ?_; intro X7 hb1 ht1; have HB7 := Lib.hid hb1; have HT7 := Lib.hid ht1; clear hb1 ht1))
  have hb7 := HB7.out
  rw [HEB.out] at hb7
  have HK := Lib.hid (HJ.out.turn (HT6.out.trans HT7.out) hb7 (fun p hp => Nat.ne_of_lt (blk_lt (HI.out.all p hp).1)))
  clear hb7 HI HJ HB6 HT6 HB7 HT7
  go_upto_region 13 with (first | ((with_reducible refine atD 60 ?_); refine wpList_loadW (by rfl) (.tmp 11) rfl w3.heap.size (by rfl) Y (HK.out.at_ (.tail _ (.tail _ (.head _)))) ?_) | ((with_reducible refine atD 61 ?_); refine wpList_loadW (by rfl) (.tmp 9) rfl w2.heap.size (by rfl) Y (HK.out.at_ (.tail _ (.tail _ (.tail _ (.head _))))) ?_) | ((with_reducible refine atD 62 ?_); refine wpList_neW (by rfl) (.tmp 60) (.tmp 61) _ rfl Y Y (by rfl) (by rfl) true HQY.out ?_) | ((with_reducible refine atD 69 ?_); refine wpList_loadW (by rfl) (.tmp 13) rfl w4.heap.size (by rfl) (bareF X) (HK.out.at_ (.tail _ (.head _))) ?_) | ((with_reducible refine atD 70 ?_); refine wpList_loadW (by rfl) (.tmp 15) rfl X4.heap.size (by rfl) (bareF X) (HK.out.at_ (.head _)) ?_) | ((with_reducible refine atD 71 ?_); refine wpList_neW (by rfl) (.tmp 69) (.tmp 70) _ rfl (bareF X) (bareF X) (by rfl) (by rfl) true HQX.out ?_))
  clear HQY HQX
  go_wp2_with (first | ((with_reducible refine atD 74 ?_); refine wpList_loadW (by rfl) (.tmp 7) rfl w1.heap.size (by rfl) X (HK.out.at_ (.tail _ (.tail _ (.tail _ (.tail _ (.head _)))))) ?_) | (go_at_call 17; refine (hrs.out _ HK.out.bel).mono ?_; rintro e w5 ⟨rfl, hb1⟩; have HL := Lib.hid (HK.out.call hb1); clear hb1) | ((with_reducible refine atS 16 77 ?_); refine wpList_storeL rfl (.tmp 16) (.tmp 77) rfl w5.heap.size (lcs Link.zero).toArray (by rfl) (by rfl) zcs (new_zcs w5) rfl rfl rfl ?_; intro X8 hb1 ht1; have HM := Lib.hid (HL.out.box Link.zero rfl hb1 ht1); clear hb1 ht1) | ((with_reducible refine atD 81 ?_); refine wpList_loadW (by rfl) (.tmp 16) rfl w5.heap.size (by rfl) Link.zero (HM.out.at_ (.head _)) ?_) | ((with_reducible refine atD 83 ?_); refine wpList_eqW (by rfl) (.tmp 81) (.tmp 82) _ rfl Link.zero Link.zero (by rfl) (by rfl) true HQZ.out ?_))
  go_ret
  exact ⟨rfl, HM.out.bel⟩
set_option maxHeartbeats 4000000 in
set_option maxRecDepth 100000 in
theorem again_yes (a b s : Bs) (w : World) (hT : Tabs w) (ha : a.length ≤ 9223372036854775807) (hb : b.length ≤ 9223372036854775807) (hs : s.length ≤ 9223372036854775807) (X Y R : Link) (h1 : parseP a = some X) (h2 : parseP b = some Y) (h3 : s.length ≤ 3000) (h4 : resolveP X s = some R) :
    Calls Tryz.prog 7 #[.string (bs a), .string (bs b), .string (bs s)] w fun e w' => e = .returned (.bool true) ∧ Below w.heap.size w w' := by
  have HT := Lib.hid hT
  clear hT
  have hz := bs_size s
  have hfi := Lib.hid (first_any w HT.out)
  have hpa := Lib.hid (fun W (h : Below w.heap.size w W) => parse_val a W (HT.out.below h) ha)
  have hpb := Lib.hid (fun W (h : Below w.heap.size w W) => parse_val b W (HT.out.below h) hb)
  rw [h1] at hpa
  rw [h2] at hpb
  have hpa : Hid (∀ W, Below w.heap.size w W → Calls Tryz.prog 14 #[.string (bs a)] W fun e w' => e = .returned (.tuple #[.agg (lcs X).toArray, .int .i64 0]) ∧ Below W.heap.size W w') := hpa
  have hpb : Hid (∀ W, Below w.heap.size w W → Calls Tryz.prog 14 #[.string (bs b)] W fun e w' => e = .returned (.tuple #[.agg (lcs Y).toArray, .int .i64 0]) ∧ Below W.heap.size W w') := hpb
  obtain ⟨hX, hla⟩ := sB_parse h1
  obtain ⟨hY, hlb⟩ := sB_parse h2
  have t3 : decide ((s.length : Int) > 3000) = false := decide_eq_false (by omega)
  have hrb := Lib.hid (fun W (h : Below w.heap.size w W) => resolve_any X b W (HT.out.below h) hX (by omega))
  have hre := Lib.hid (fun W (h : Below w.heap.size w W) => resolve_any X [] W (HT.out.below h) hX (by simp))
  have hrs := Lib.hid (fun W (h : Below w.heap.size w W) => resolve_any X s W (HT.out.below h) hX (by omega))
  rw [resolve_whole h2] at hrb
  rw [resolve_empty h1] at hre
  have hrb : Hid (∀ W, Below w.heap.size w W → Calls Tryz.prog 17 #[.agg (lcs X).toArray, .string (bs b)] W fun e w' => e = .returned (.tuple #[.agg (lcs Y).toArray, .int .i64 0]) ∧ Below W.heap.size W w') := hrb
  have hre : Hid (∀ W, Below w.heap.size w W → Calls Tryz.prog 17 #[.agg (lcs X).toArray, .string ⟨#[]⟩] W fun e w' => e = .returned (.tuple #[.agg (lcs (bareF X)).toArray, .int .i64 0]) ∧ Below W.heap.size W w') := hre
  have HQY := Lib.hid (lnkEq_self Y)
  have HQX := Lib.hid (lnkEq_self (bareF X))
  rw [h4] at hrs
  have hrs : Hid (∀ W, Below w.heap.size w W → Calls Tryz.prog 17 #[.agg (lcs X).toArray, .string (bs s)] W fun e w' => e = .returned (.tuple #[.agg (lcs R).toArray, .int .i64 0]) ∧ Below W.heap.size W w') := hrs
  have hback := resolve_back h4
  obtain ⟨hR, hRl⟩ := sB_parse hback
  have hpr := Lib.hid (fun W (h : Below w.heap.size w W) => print_val R hR W (HT.out.below h))
  have hpp := Lib.hid (fun W (h : Below w.heap.size w W) => parse_val (printL R) W (HT.out.below h) (by omega))
  rw [hback] at hpp
  have hpp : Hid (∀ W, Below w.heap.size w W → Calls Tryz.prog 14 #[.string (bs (printL R))] W fun e w' => e = .returned (.tuple #[.agg (lcs R).toArray, .int .i64 0]) ∧ Below W.heap.size W w') := hpp
  generalize bs (printL R) = SR at *
  have HQR := Lib.hid (lnkEq_self R)
  clear h1 h2 h4 ha hb hs h3 hla hlb hX hY hback hR hRl
  generalize bs a = SA at *
  generalize bs b = SB at *
  generalize bs s = SS at *
  have H0 := Lib.hid (LK.start w)
  go_enter Tryz.func7, Tryz.ntmps7
  go_upto_region 5 with (first | (go_at_call 13; refine hfi.out.mono ?_; rintro e w0 ⟨rfl, hb1⟩; have HA := Lib.hid (H0.out.call hb1); clear hb1) | (go_at_call_of 14 (Value.string SA); refine (hpa.out _ HA.out.bel).mono ?_; rintro e w1 ⟨rfl, hb1⟩; have HB := Lib.hid (HA.out.call hb1); clear hb1) | ((with_reducible refine atS 7 25 ?_); refine wpList_storeL rfl (.tmp 7) (.tmp 25) rfl w1.heap.size (lcs X).toArray (by rfl) (by rfl) zcs (new_zcs w1) rfl rfl rfl ?_; intro X1 hb1 ht1; have HC := Lib.hid (HB.out.box X rfl hb1 ht1); clear hb1 ht1) | (go_at_call_of 14 (Value.string SB); refine (hpb.out _ HC.out.bel).mono ?_; rintro e w2 ⟨rfl, hb1⟩; have HD := Lib.hid (HC.out.call hb1); clear hb1) | ((with_reducible refine atS 9 30 ?_); refine wpList_storeL rfl (.tmp 9) (.tmp 30) rfl w2.heap.size (lcs Y).toArray (by rfl) (by rfl) zcs (new_zcs w2) rfl rfl rfl ?_; intro X2 hb1 ht1; have HE := Lib.hid (HD.out.box Y rfl hb1 ht1); clear hb1 ht1))
  go_upto_region 8 with (first | ((with_reducible refine atD 44 ?_); refine wpList_loadW (by rfl) (.tmp 7) rfl w1.heap.size (by rfl) X (HE.out.at_ (.tail _ (.head _))) ?_) | (go_at_call 17; refine (hrb.out _ HE.out.bel).mono ?_; rintro e w3 ⟨rfl, hb1⟩; have HF := Lib.hid (HE.out.call hb1); clear hb1) | ((with_reducible refine atS 11 47 ?_); refine wpList_storeL rfl (.tmp 11) (.tmp 47) rfl w3.heap.size (lcs Y).toArray (by rfl) (by rfl) zcs (new_zcs w3) rfl rfl rfl ?_; intro X3 hb1 ht1; have HG := Lib.hid (HF.out.box Y rfl hb1 ht1); clear hb1 ht1))
  clear hrb HA HB HC HD HE HF
  go_upto_region 9 with (first | ((with_reducible refine atD 50 ?_); refine wpList_loadW (by rfl) (.tmp 7) rfl w1.heap.size (by rfl) X (HG.out.at_ (.tail _ (.tail _ (.head _)))) ?_) | (go_at_call 17; refine (hre.out _ HG.out.bel).mono ?_; rintro e w4 ⟨rfl, hb1⟩; have HH := Lib.hid (HG.out.call hb1); clear hb1) | ((with_reducible refine atS 13 52 ?_); refine wpList_storeL rfl (.tmp 13) (.tmp 52) rfl w4.heap.size (lcs (bareF X)).toArray (by rfl) (by rfl) zcs (new_zcs w4) rfl rfl rfl ?_; intro X4 hb1 ht1; have HI := Lib.hid (HH.out.box (bareF X) rfl hb1 ht1); clear hb1 ht1))
  clear hre HG HH
  have eb : ((lcs X).set 5 (.string ⟨#[]⟩)).set 7 (.bool false) = lcs (bareF X) := rfl
  have HEB := Lib.hid eb
  clear eb
  go_upto_region 10 with (first | ((with_reducible refine atD 54 ?_); refine wpList_loadW (by rfl) (.tmp 7) rfl w1.heap.size (by rfl) X (HI.out.at_ (.tail _ (.tail _ (.tail _ (.head _))))) ?_) | ((with_reducible refine atS 15 54 ?_); refine wpList_storeL rfl (.tmp 15) (.tmp 54) rfl X4.heap.size (lcs X).toArray (by rfl) (by rfl) zcs (new_zcs X4) rfl rfl rfl ?_; intro X5 hb1 ht1; have HJ := Lib.hid (HI.out.box X rfl hb1 ht1); clear hb1 ht1))
  go_upto_region 11 with (first | ((with_reducible refine atC 55 ?_); refine wpList_storeC rfl 9 (.tmp 55) (.const (.string ⟨#[]⟩)) rfl X4.heap.size 5 (.string ⟨#[]⟩) (by rfl) (by rfl) rfl info9 24 _ (HJ.out.at_ (.head _)) (by exact Nat.le_of_ble_eq_true rfl) ?_; intro X6 hb1 ht1; have HB6 := Lib.hid hb1; have HT6 := Lib.hid ht1; clear hb1 ht1) | ((with_reducible refine atC 56 ?_); refine wpList_storeC rfl 4 (.tmp 56) (.const (.bool false)) rfl X4.heap.size 7 (.bool false) (by rfl) (by rfl) rfl info4 24 _ HB6.out (by exact Nat.le_of_ble_eq_true rfl) ?_; intro X7 hb1 ht1; have HB7 := Lib.hid hb1; have HT7 := Lib.hid ht1; clear hb1 ht1))
  have hb7 := HB7.out
  rw [HEB.out] at hb7
  have HK := Lib.hid (HJ.out.turn (HT6.out.trans HT7.out) hb7 (fun p hp => Nat.ne_of_lt (blk_lt (HI.out.all p hp).1)))
  clear hb7 HI HJ HB6 HT6 HB7 HT7
  go_upto_region 13 with (first | ((with_reducible refine atD 60 ?_); refine wpList_loadW (by rfl) (.tmp 11) rfl w3.heap.size (by rfl) Y (HK.out.at_ (.tail _ (.tail _ (.head _)))) ?_) | ((with_reducible refine atD 61 ?_); refine wpList_loadW (by rfl) (.tmp 9) rfl w2.heap.size (by rfl) Y (HK.out.at_ (.tail _ (.tail _ (.tail _ (.head _))))) ?_) | ((with_reducible refine atD 62 ?_); refine wpList_neW (by rfl) (.tmp 60) (.tmp 61) _ rfl Y Y (by rfl) (by rfl) true HQY.out ?_) | ((with_reducible refine atD 69 ?_); refine wpList_loadW (by rfl) (.tmp 13) rfl w4.heap.size (by rfl) (bareF X) (HK.out.at_ (.tail _ (.head _))) ?_) | ((with_reducible refine atD 70 ?_); refine wpList_loadW (by rfl) (.tmp 15) rfl X4.heap.size (by rfl) (bareF X) (HK.out.at_ (.head _)) ?_) | ((with_reducible refine atD 71 ?_); refine wpList_neW (by rfl) (.tmp 69) (.tmp 70) _ rfl (bareF X) (bareF X) (by rfl) (by rfl) true HQX.out ?_))
  clear HQY HQX
  go_upto_region 16 with (first | ((with_reducible refine atD 74 ?_); refine wpList_loadW (by rfl) (.tmp 7) rfl w1.heap.size (by rfl) X (HK.out.at_ (.tail _ (.tail _ (.tail _ (.tail _ (.head _)))))) ?_) | (go_at_call 17; refine (hrs.out _ HK.out.bel).mono ?_; rintro e w5 ⟨rfl, hb1⟩; have HL := Lib.hid (HK.out.call hb1); clear hb1) | ((with_reducible refine atS 16 77 ?_); refine wpList_storeL rfl (.tmp 16) (.tmp 77) rfl w5.heap.size (lcs R).toArray (by rfl) (by rfl) zcs (new_zcs w5) rfl rfl rfl ?_; intro X8 hb1 ht1; have HM := Lib.hid (HL.out.box R rfl hb1 ht1); clear hb1 ht1))
  go_wp2_with (first | ((with_reducible refine atD 85 ?_); refine wpList_loadW (by rfl) (.tmp 16) rfl w5.heap.size (by rfl) R (HM.out.at_ (.head _)) ?_) | (go_at_call 16; refine (hpr.out _ HM.out.bel).mono ?_; rintro e w6 ⟨rfl, hb1⟩; have HN := Lib.hid (HM.out.call hb1); clear hb1) | (go_at_call 14; refine (hpp.out _ HN.out.bel).mono ?_; rintro e w7 ⟨rfl, hb1⟩; have HO := Lib.hid (HN.out.call hb1); clear hb1) | ((with_reducible refine atS 18 88 ?_); refine wpList_storeL rfl (.tmp 18) (.tmp 88) rfl w7.heap.size (lcs R).toArray (by rfl) (by rfl) zcs (new_zcs w7) rfl rfl rfl ?_; intro X9 hb1 ht1; have HP := Lib.hid (HO.out.box R rfl hb1 ht1); clear hb1 ht1) | ((with_reducible refine atD 93 ?_); refine wpList_loadW (by rfl) (.tmp 18) rfl w7.heap.size (by rfl) R (HP.out.at_ (.head _)) ?_) | ((with_reducible refine atD 94 ?_); refine wpList_loadW (by rfl) (.tmp 16) rfl w5.heap.size (by rfl) R (HP.out.at_ (.tail _ (.head _))) ?_) | ((with_reducible refine atD 95 ?_); refine wpList_eqW (by rfl) (.tmp 93) (.tmp 94) _ rfl R R (by rfl) (by rfl) true HQR.out ?_))
  go_ret
  exact ⟨rfl, HP.out.bel⟩
theorem again_any (a b s : Bs) (w : World) (hT : Tabs w) (ha : a.length ≤ 9223372036854775807) (hb : b.length ≤ 9223372036854775807) (hs : s.length ≤ 9223372036854775807) :
    Calls Tryz.prog 7 #[.string (bs a), .string (bs b), .string (bs s)] w fun e w' => e = .returned (.bool true) ∧ Below w.heap.size w w' := by
  cases h1 : parseP a with
  | none => exact again_a a b s w hT ha hb hs h1
  | some X =>
    cases h2 : parseP b with
    | none => exact again_b a b s w hT ha hb hs X h1 h2
    | some Y =>
      by_cases h3 : 3000 < s.length
      · exact again_s a b s w hT ha hb hs X Y h1 h2 h3
      · cases h4 : resolveP X s with
        | none => exact again_no a b s w hT ha hb hs X Y h1 h2 (by omega) h4
        | some R => exact again_yes a b s w hT ha hb hs X Y R h1 h2 (by omega) h4
end Go.Proofs.YtcpkkaimingnlaaGreatDoor
