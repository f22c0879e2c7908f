/-
  The law LinkDots, walked.
-/
import Derived.Test.YtcpkkaimingnlaaGreatDoorLfi
import Derived.Test.YtcpkkaimingnlaaGreatDoorLrd
namespace Go.Proofs.YtcpkkaimingnlaaGreatDoor
open Go.RowKit

set_option maxHeartbeats 4000000 in
set_option maxRecDepth 100000 in
theorem ldots_any (p : Bs) (w : World) (hT : Tabs w) (hs : p.length ≤ 9223372036854775807) :
    Calls Tryz.prog 5 #[.string (bs p)] w fun e w' => e = .returned (.bool true) ∧ Below w.heap.size w w' := by
  have HT := Lib.hid hT
  clear hT
  have hz := bs_size p
  have hfi := Lib.hid (first_any w HT.out)
  have H0 := Lib.hid (LK.start w)
  by_cases h : 2000 < p.length
  · have t1 : decide ((p.length : Int) > 2000) = true := decide_eq_true (by omega)
    generalize bs p = S at *
    go_enter Tryz.func5, Tryz.ntmps5
    go_wp2_with (go_at_call 13; refine hfi.out.mono ?_; rintro e w0 ⟨rfl, hb1⟩; have HA := Lib.hid hb1; clear hb1)
    go_ret
    exact ⟨rfl, HA.out⟩
  · have t1 : decide ((p.length : Int) > 2000) = false := decide_eq_false (by omega)
    have hd := Lib.hid (fun W (h : Below w.heap.size w W) => dots_any p W (HT.out.below h) (by omega))
    have hd2 := Lib.hid (fun W (h : Below w.heap.size w W) => dots_any (dotsP p) W (HT.out.below h) (by have := dots_len p; omega))
    rw [dots_idem] at hd2
    have hr := Lib.hid (fun W => rdots_any p W (by omega))
    generalize bs p = S at *
    generalize bs (dotsP p) = SD at *
    clear h hs
    go_enter Tryz.func5, Tryz.ntmps5
    go_upto_region 3 with (go_at_call 13; refine hfi.out.mono ?_; rintro e w0 ⟨rfl, hb1⟩; have HA := Lib.hid (H0.out.call hb1); clear hb1)
    go_wp2_with (first | (go_at_call 20; refine (hr.out _).mono ?_; rintro e w2 ⟨rfl, hb1⟩; have HC := Lib.hid (HB.out.call hb1); clear hb1) | (go_at_call_of 19 (Value.string SD); refine (hd2.out _ HD.out.bel).mono ?_; rintro e w4 ⟨rfl, hb1⟩; have HE := Lib.hid (HD.out.call hb1); clear hb1) | (go_at_call 19; refine (hd.out _ HE.out.bel).mono ?_; rintro e w5 ⟨rfl, hb1⟩; have HF := Lib.hid (HE.out.call hb1); clear hb1) | (go_at_call 19; refine (hd.out _ HC.out.bel).mono ?_; rintro e w3 ⟨rfl, hb1⟩; have HD := Lib.hid (HC.out.call hb1); clear hb1) | (go_at_call 19; refine (hd.out _ HA.out.bel).mono ?_; rintro e w1 ⟨rfl, hb1⟩; have HB := Lib.hid (HA.out.call hb1); clear hb1))
    go_ret
    exact ⟨rfl, HF.out.bel⟩
end Go.Proofs.YtcpkkaimingnlaaGreatDoor
