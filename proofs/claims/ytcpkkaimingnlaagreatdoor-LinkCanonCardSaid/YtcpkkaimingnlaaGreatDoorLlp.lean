/-
  The law LinkParses, walked.
-/
import Derived.Test.YtcpkkaimingnlaaGreatDoorLga
import Derived.Test.YtcpkkaimingnlaaGreatDoorRpa
set_option linter.unusedVariables false
set_option linter.unusedSimpArgs false
namespace Go.Proofs.YtcpkkaimingnlaaGreatDoor
open Go.RowKit

theorem rparse_val (s : Bs) (w : World) (hmax : s.length ≤ 9223372036854775807) :
    Calls Tryz.prog 15 #[.string (bs s)] w fun e w' => e = .returned (.tuple #[.agg (lcs ((parseP s).getD Link.zero)).toArray, .bool (parseP s).isSome]) ∧ Below w.heap.size w w' := by
  refine (rparse_any s w hmax).mono ?_
  rintro e w' ⟨rfl, h⟩
  rw [parseR_eq]
  exact ⟨rfl, h⟩
set_option maxHeartbeats 4000000 in
set_option maxRecDepth 100000 in
theorem parses_s (s : Bs) (w : World) (hT : Tabs w) (hs : s.length ≤ 9223372036854775807) (h3 : 4000 < s.length) :
    Calls Tryz.prog 3 #[.string (bs s)] w fun e w' => e = .returned (.bool true) ∧ Below w.heap.size w w' := by
  have HT := Lib.hid hT
  clear hT
  have hz := bs_size s
  have hfi := Lib.hid (first_any w HT.out)
  have t3 : decide ((s.length : Int) > 4000) = true := decide_eq_true (by omega)
  generalize bs s = SS at *
  have H0 := Lib.hid (LK.start w)
  go_enter Tryz.func3, Tryz.ntmps3
  go_wp2_with (go_at_call 13; refine hfi.out.mono ?_; rintro e w0 ⟨rfl, hb1⟩; have HA := Lib.hid (H0.out.call hb1); clear hb1)
  go_ret
  exact ⟨rfl, HA.out.bel⟩
set_option maxHeartbeats 4000000 in
set_option maxRecDepth 100000 in
theorem parses_no (s : Bs) (w : World) (hT : Tabs w) (hs : s.length ≤ 9223372036854775807) (h3 : s.length ≤ 4000) (h1 : parseP s = none) :
    Calls Tryz.prog 3 #[.string (bs s)] w fun e w' => e = .returned (.bool true) ∧ Below w.heap.size w w' := by
  have HT := Lib.hid hT
  clear hT
  have hz := bs_size s
  have hfi := Lib.hid (first_any w HT.out)
  have hpa := Lib.hid (fun W (h : Below w.heap.size w W) => parse_val s W (HT.out.below h) hs)
  have hpb := Lib.hid (fun W (_ : Below w.heap.size w W) => rparse_val s W hs)
  have t3 : decide ((s.length : Int) > 4000) = false := decide_eq_false (by omega)
  rw [h1] at hpa hpb
  have hpa : Hid (∀ W, Below w.heap.size w W → Calls Tryz.prog 14 #[.string (bs s)] W fun e w' => e = .returned (.tuple #[.agg (lcs Link.zero).toArray, .int .i64 40]) ∧ Below W.heap.size W w') := hpa
  have hpb : Hid (∀ W, Below w.heap.size w W → Calls Tryz.prog 15 #[.string (bs s)] W fun e w' => e = .returned (.tuple #[.agg (lcs Link.zero).toArray, .bool false]) ∧ Below W.heap.size W w') := hpb
  clear h1
  generalize bs s = SS at *
  have H0 := Lib.hid (LK.start w)
  have HQ := Lib.hid (lnkEq_self Link.zero)
  clear hs h3
  go_enter Tryz.func3, Tryz.ntmps3
  go_upto_region 6 with (first | (go_at_call 13; refine hfi.out.mono ?_; rintro e w0 ⟨rfl, hb1⟩; have HA := Lib.hid (H0.out.call hb1); clear hb1) | (go_at_call 14; refine (hpa.out _ HA.out.bel).mono ?_; rintro e w1 ⟨rfl, hb1⟩; have HB := Lib.hid (HA.out.call hb1); clear hb1) | ((with_reducible refine atS 3 15 ?_); refine wpList_storeL rfl (.tmp 3) (.tmp 15) rfl w1.heap.size (lcs Link.zero).toArray (by rfl) (by rfl) zcs (new_zcs w1) rfl rfl rfl ?_; intro X1 hb1 ht1; have HC := Lib.hid (HB.out.box Link.zero rfl hb1 ht1); clear hb1 ht1))
  go_upto_region 7 with (first | (go_at_call 15; refine (hpb.out _ HC.out.bel).mono ?_; rintro e w2 ⟨rfl, hb1⟩; have HD := Lib.hid (HC.out.call hb1); clear hb1) | ((with_reducible refine atS 5 20 ?_); refine wpList_storeL rfl (.tmp 5) (.tmp 20) rfl w2.heap.size (lcs Link.zero).toArray (by rfl) (by rfl) zcs (new_zcs w2) rfl rfl rfl ?_; intro X2 hb1 ht1; have HE := Lib.hid (HD.out.box Link.zero rfl hb1 ht1); clear hb1 ht1))
  clear hpa hpb HA HB HC HD
  go_upto_region 9 with (first | ((with_reducible refine atD 22 ?_); refine wpList_loadW (by rfl) (.tmp 3) rfl w1.heap.size (by rfl) Link.zero (HE.out.at_ (.tail _ (.head _))) ?_) | ((with_reducible refine atD 23 ?_); refine wpList_loadW (by rfl) (.tmp 5) rfl w2.heap.size (by rfl) Link.zero (HE.out.at_ (.head _)) ?_) | ((with_reducible refine atD 24 ?_); refine wpList_neW (by rfl) (.tmp 22) (.tmp 23) _ rfl Link.zero Link.zero (by rfl) (by rfl) true HQ.out ?_))
  go_wp2_with (first | ((with_reducible refine atD 38 ?_); refine wpList_loadW (by rfl) (.tmp 3) rfl w1.heap.size (by rfl) Link.zero (HE.out.at_ (.tail _ (.head _))) ?_) | ((with_reducible refine atD 40 ?_); refine wpList_eqW (by rfl) (.tmp 38) (.tmp 39) _ rfl Link.zero Link.zero (by rfl) (by rfl) true HQ.out ?_))
  go_ret
  exact ⟨rfl, HE.out.bel⟩
set_option maxHeartbeats 4000000 in
set_option maxRecDepth 100000 in
theorem parses_yes (s : Bs) (w : World) (hT : Tabs w) (hs : s.length ≤ 9223372036854775807) (h3 : s.length ≤ 4000) (X : Link) (h1 : parseP s = some X) :
    Calls Tryz.prog 3 #[.string (bs s)] w fun e w' => e = .returned (.bool true) ∧ Below w.heap.size w w' := by
  have HT := Lib.hid hT
  clear hT
  have hz := bs_size s
  have hfi := Lib.hid (first_any w HT.out)
  have hpa := Lib.hid (fun W (h : Below w.heap.size w W) => parse_val s W (HT.out.below h) hs)
  have hpb := Lib.hid (fun W (_ : Below w.heap.size w W) => rparse_val s W hs)
  have t3 : decide ((s.length : Int) > 4000) = false := decide_eq_false (by omega)
  rw [h1] at hpa hpb
  have hpa : Hid (∀ W, Below w.heap.size w W → Calls Tryz.prog 14 #[.string (bs s)] W fun e w' => e = .returned (.tuple #[.agg (lcs X).toArray, .int .i64 0]) ∧ Below W.heap.size W w') := hpa
  have hpb : Hid (∀ W, Below w.heap.size w W → Calls Tryz.prog 15 #[.string (bs s)] W fun e w' => e = .returned (.tuple #[.agg (lcs X).toArray, .bool true]) ∧ Below W.heap.size W w') := hpb
  obtain ⟨hX, _⟩ := sB_parse h1
  have hpr := Lib.hid (fun W (h : Below w.heap.size w W) => print_val X hX W (HT.out.below h))
  rw [((parseP_iff s X).1 h1).2.1] at hpr
  clear h1 hX
  generalize bs s = SS at *
  have H0 := Lib.hid (LK.start w)
  have HQ := Lib.hid (lnkEq_self X)
  clear hs h3
  go_enter Tryz.func3, Tryz.ntmps3
  go_upto_region 6 with (first | (go_at_call 13; refine hfi.out.mono ?_; rintro e w0 ⟨rfl, hb1⟩; have HA := Lib.hid (H0.out.call hb1); clear hb1) | (go_at_call 14; refine (hpa.out _ HA.out.bel).mono ?_; rintro e w1 ⟨rfl, hb1⟩; have HB := Lib.hid (HA.out.call hb1); clear hb1) | ((with_reducible refine atS 3 15 ?_); refine wpList_storeL rfl (.tmp 3) (.tmp 15) rfl w1.heap.size (lcs X).toArray (by rfl) (by rfl) zcs (new_zcs w1) rfl rfl rfl ?_; intro X1 hb1 ht1; have HC := Lib.hid (HB.out.box X rfl hb1 ht1); clear hb1 ht1))
  go_upto_region 7 with (first | (go_at_call 15; refine (hpb.out _ HC.out.bel).mono ?_; rintro e w2 ⟨rfl, hb1⟩; have HD := Lib.hid (HC.out.call hb1); clear hb1) | ((with_reducible refine atS 5 20 ?_); refine wpList_storeL rfl (.tmp 5) (.tmp 20) rfl w2.heap.size (lcs X).toArray (by rfl) (by rfl) zcs (new_zcs w2) rfl rfl rfl ?_; intro X2 hb1 ht1; have HE := Lib.hid (HD.out.box X rfl hb1 ht1); clear hb1 ht1))
  clear hpa hpb HA HB HC HD
  go_upto_region 9 with (first | ((with_reducible refine atD 22 ?_); refine wpList_loadW (by rfl) (.tmp 3) rfl w1.heap.size (by rfl) X (HE.out.at_ (.tail _ (.head _))) ?_) | ((with_reducible refine atD 23 ?_); refine wpList_loadW (by rfl) (.tmp 5) rfl w2.heap.size (by rfl) X (HE.out.at_ (.head _)) ?_) | ((with_reducible refine atD 24 ?_); refine wpList_neW (by rfl) (.tmp 22) (.tmp 23) _ rfl X X (by rfl) (by rfl) true HQ.out ?_))
  go_wp2_with (first | ((with_reducible refine atD 45 ?_); refine wpList_loadW (by rfl) (.tmp 3) rfl w1.heap.size (by rfl) X (HE.out.at_ (.tail _ (.head _))) ?_) | (go_at_call 16; refine (hpr.out _ HE.out.bel).mono ?_; rintro e w3 ⟨rfl, hb1⟩; have HF := Lib.hid (HE.out.call hb1); clear hb1))
  go_ret
  exact ⟨rfl, HF.out.bel⟩
theorem parses_any (s : Bs) (w : World) (hT : Tabs w) (hs : s.length ≤ 9223372036854775807) :
    Calls Tryz.prog 3 #[.string (bs s)] w fun e w' => e = .returned (.bool true) ∧ Below w.heap.size w w' := by
  by_cases h3 : 4000 < s.length
  · exact parses_s s w hT hs h3
  · cases h1 : parseP s with
    | none => exact parses_no s w hT hs (by omega) h1
    | some X => exact parses_yes s w hT hs (by omega) X h1
end Go.Proofs.YtcpkkaimingnlaaGreatDoor
