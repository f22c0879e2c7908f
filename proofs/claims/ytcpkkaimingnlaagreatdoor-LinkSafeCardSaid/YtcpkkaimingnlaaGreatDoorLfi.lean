/-
  The laws' first lines: what must be answered ahead of everything else.
-/
import Derived.Test.YtcpkkaimingnlaaGreatDoorLlw
import Derived.Test.YtcpkkaimingnlaaGreatDoorLcn
namespace Go.Proofs.YtcpkkaimingnlaaGreatDoor
open Go.RowKit

def fU : Bs := [72, 84, 84, 80, 58, 47, 47, 69, 120, 46, 67, 79, 77, 58, 56, 48, 47, 97, 47, 46, 47, 98, 47, 46, 46, 47, 37, 55, 101, 99, 63, 117, 116, 109, 95, 120, 61, 49, 38, 121, 61, 50, 35, 122]
def fL : Link := ⟨[72, 84, 84, 80], [69, 120, 46, 67, 79, 77], 80, [47, 97, 47, 46, 47, 98, 47, 46, 46, 47, 37, 55, 101, 99], [117, 116, 109, 95, 120, 61, 49, 38, 121, 61, 50], [122], true, true⟩
def fB : Bs := [104, 116, 116, 112, 58, 47, 47, 104, 47, 97, 47, 98]
def fBL : Link := ⟨[104, 116, 116, 112], [104], 0, [47, 97, 47, 98], [], [], false, false⟩
def fR : Link := ⟨[104, 116, 116, 112], [104], 0, [47, 99], [], [], false, false⟩
def fF : Bs := [102, 116, 112, 58, 47, 47, 104, 47]
theorem f_u : parseP fU = some fL := by kernel_rfl
theorem f_c : printL (canonP fL) = [104, 116, 116, 112, 58, 47, 47, 101, 120, 46, 99, 111, 109, 47, 97, 47, 126, 99, 63, 121, 61, 50] := by kernel_rfl
theorem f_b : parseP fB = some fBL := by kernel_rfl
theorem f_r : resolveP fBL [46, 46, 47, 99] = some fR := by kernel_rfl
theorem f_p : printL fR = [104, 116, 116, 112, 58, 47, 47, 104, 47, 99] := by kernel_rfl
theorem f_f : parseP fF = none := by kernel_rfl
theorem f_d : dotsP [47, 97, 47, 46, 46, 47, 98, 47, 46] = [47, 98, 47] := by kernel_rfl
def fC : Bs := [104, 116, 116, 112, 58, 47, 47, 101, 120, 46, 99, 111, 109, 47, 97, 47, 126, 99, 63, 121, 61, 50]
def fRT : Bs := [104, 116, 116, 112, 58, 47, 47, 104, 47, 99]
def fD : Bs := [47, 98, 47]
theorem bs_same (l : Bs) : ((bs l).toList == l) = true := by rw [bs_toList]; exact beq_self_eq_true l
theorem sB_fL : sB (canonP fL) ∧ sB fL ∧ sB fBL ∧ sB fR := by unfold sB; decide +kernel
set_option maxHeartbeats 4000000 in
set_option maxRecDepth 100000 in
theorem first_any (w : World) (hT : Tabs w) :
    Calls Tryz.prog 13 #[] w fun e w' => e = .returned (.bool true) ∧ Below w.heap.size w w' := by
  have HT := Lib.hid hT
  clear hT
  have hu := Lib.hid (fun W (h : Below w.heap.size w W) => parse_val fU W (HT.out.below h) (by decide))
  have hb := Lib.hid (fun W (h : Below w.heap.size w W) => parse_val fB W (HT.out.below h) (by decide))
  have hf := Lib.hid (fun W (h : Below w.heap.size w W) => parse_val fF W (HT.out.below h) (by decide))
  have hr := Lib.hid (fun W (h : Below w.heap.size w W) => resolve_any fBL [46, 46, 47, 99] W (HT.out.below h) sB_fL.2.2.1 (by decide))
  have hc := Lib.hid (fun W (h : Below w.heap.size w W) => canon_any fL W (HT.out.below h) sB_fL.2.1)
  have hp := Lib.hid (fun W (h : Below w.heap.size w W) => print_val (canonP fL) sB_fL.1 W (HT.out.below h))
  have hq := Lib.hid (fun W (h : Below w.heap.size w W) => print_val fR sB_fL.2.2.2 W (HT.out.below h))
  have hd := Lib.hid (fun W (h : Below w.heap.size w W) => dots_any [47, 97, 47, 46, 46, 47, 98, 47, 46] W (HT.out.below h) (by decide))
  have eC : printL (canonP fL) = fC := f_c
  have eR : printL fR = fRT := f_p
  have eD : dotsP [47, 97, 47, 46, 46, 47, 98, 47, 46] = fD := f_d
  rw [f_u] at hu
  rw [f_b] at hb
  rw [f_f] at hf
  rw [f_r] at hr
  rw [eC] at hp
  rw [eR] at hq
  rw [eD] at hd
  have q1 : ((bs fC).toList == [104, 116, 116, 112, 58, 47, 47, 101, 120, 46, 99, 111, 109, 47, 97, 47, 126, 99, 63, 121, 61, 50]) = true := bs_same fC
  have q2 : ((bs fRT).toList == [104, 116, 116, 112, 58, 47, 47, 104, 47, 99]) = true := bs_same fRT
  have q3 : ((bs fD).toList == [47, 98, 47]) = true := bs_same fD
  generalize bs fC = SC at *
  generalize bs fRT = SR at *
  generalize bs fD = SD at *
  have hu : Hid (∀ W, Below w.heap.size w W → Calls Tryz.prog 14 #[.string ⟨#[72, 84, 84, 80, 58, 47, 47, 69, 120, 46, 67, 79, 77, 58, 56, 48, 47, 97, 47, 46, 47, 98, 47, 46, 46, 47, 37, 55, 101, 99, 63, 117, 116, 109, 95, 120, 61, 49, 38, 121, 61, 50, 35, 122]⟩] W fun e w' => e = .returned (.tuple #[.agg (lcs fL).toArray, .int .i64 0]) ∧ Below W.heap.size W w') := hu
  have hb : Hid (∀ W, Below w.heap.size w W → Calls Tryz.prog 14 #[.string ⟨#[104, 116, 116, 112, 58, 47, 47, 104, 47, 97, 47, 98]⟩] W fun e w' => e = .returned (.tuple #[.agg (lcs fBL).toArray, .int .i64 0]) ∧ Below W.heap.size W w') := hb
  have hf : Hid (∀ W, Below w.heap.size w W → Calls Tryz.prog 14 #[.string ⟨#[102, 116, 112, 58, 47, 47, 104, 47]⟩] W fun e w' => e = .returned (.tuple #[.agg (lcs Link.zero).toArray, .int .i64 40]) ∧ Below W.heap.size W w') := hf
  have hr : Hid (∀ W, Below w.heap.size w W → Calls Tryz.prog 17 #[.agg (lcs fBL).toArray, .string ⟨#[46, 46, 47, 99]⟩] W fun e w' => e = .returned (.tuple #[.agg (lcs fR).toArray, .int .i64 0]) ∧ Below W.heap.size W w') := hr
  have hd : Hid (∀ W, Below w.heap.size w W → Calls Tryz.prog 19 #[.string ⟨#[47, 97, 47, 46, 46, 47, 98, 47, 46]⟩] W fun e w' => e = .returned (.string SD) ∧ Below W.heap.size W w') := hd
  have H0 := Lib.hid (LK.start w)
  go_enter Tryz.func13, Tryz.ntmps13
  go_upto_region 2 with (first | (go_at_call 14; refine (hu.out _ H0.out.bel).mono ?_; rintro e w1 ⟨rfl, hb1⟩; have H1 := Lib.hid (H0.out.call hb1); clear hb1) | (refine wpList_storeL rfl (.tmp 1) (.tmp 11) rfl w1.heap.size (lcs fL).toArray (by rfl) (by rfl) zcs (new_zcs w1) rfl rfl rfl ?_; intro X1 hb1 ht1; have HB1 := Lib.hid (H1.out.box fL rfl hb1 ht1); clear hb1 ht1))
  go_upto_region 3 with (first | (go_at_call 14; refine (hb.out _ HB1.out.bel).mono ?_; rintro e w2 ⟨rfl, hb1⟩; have H2 := Lib.hid (HB1.out.call hb1); clear hb1) | (refine wpList_storeL rfl (.tmp 3) (.tmp 15) rfl w2.heap.size (lcs fBL).toArray (by rfl) (by rfl) zcs (new_zcs w2) rfl rfl rfl ?_; intro X2 hb1 ht1; have HB2 := Lib.hid (H2.out.box fBL rfl hb1 ht1); clear hb1 ht1))
  go_upto_region 4 with (first | (refine wpList_loadW (by rfl) (.tmp 3) rfl w2.heap.size (by rfl) fBL (HB2.out.at_ (.head _)) ?_) | (go_at_call 17; refine (hr.out _ HB2.out.bel).mono ?_; rintro e w3 ⟨rfl, hb1⟩; have H3 := Lib.hid (HB2.out.call hb1); clear hb1) | (refine wpList_storeL rfl (.tmp 5) (.tmp 20) rfl w3.heap.size (lcs fR).toArray (by rfl) (by rfl) zcs (new_zcs w3) rfl rfl rfl ?_; intro X3 hb1 ht1; have HB3 := Lib.hid (H3.out.box fR rfl hb1 ht1); clear hb1 ht1))
  go_upto_region 5 with (first | (go_at_call 14; refine (hf.out _ HB3.out.bel).mono ?_; rintro e w4 ⟨rfl, hb1⟩; have H4 := Lib.hid (HB3.out.call hb1); clear hb1) | (refine wpList_storeL rfl (.tmp 7) (.tmp 24) rfl w4.heap.size (lcs Link.zero).toArray (by rfl) (by rfl) zcs (new_zcs w4) rfl rfl rfl ?_; intro X4 hb1 ht1; have HB4 := Lib.hid (H4.out.box Link.zero rfl hb1 ht1); clear hb1 ht1))
  go_wp2_with (first | (refine wpList_loadW (by rfl) (.tmp 1) rfl w1.heap.size (by rfl) fL (HB4.out.at_ (.tail _ (.tail _ (.tail _ (.head _))))) ?_) | (go_at_call 21; refine (hc.out _ HB4.out.bel).mono ?_; rintro e w5 ⟨rfl, hb1⟩; have H5 := Lib.hid (HB4.out.call hb1); clear hb1) | (go_at_call_of 16 (Value.agg (lcs (canonP fL)).toArray); refine (hp.out _ H5.out.bel).mono ?_; rintro e w6 ⟨rfl, hb1⟩; have H6 := Lib.hid (H5.out.call hb1); clear hb1) | (refine wpList_loadW (by rfl) (.tmp 5) rfl w3.heap.size (by rfl) fR (H6.out.at_ (.tail _ (.head _))) ?_) | (go_at_call 16; refine (hq.out _ H6.out.bel).mono ?_; rintro e w7 ⟨rfl, hb1⟩; have H7 := Lib.hid (H6.out.call hb1); clear hb1) | (go_at_call 19; refine (hd.out _ H7.out.bel).mono ?_; rintro e w8 ⟨rfl, hb1⟩; have H8 := Lib.hid (H7.out.call hb1); clear hb1))
  go_ret
  exact ⟨rfl, H8.out.bel⟩
end Go.Proofs.YtcpkkaimingnlaaGreatDoor
