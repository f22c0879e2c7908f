/-
  The document's Hear: a source that is led on.
-/
import Derived.Test.YtcpkkaimingnlaaGreatDoorRsa
set_option linter.unusedVariables false
set_option linter.unusedSimpArgs false
namespace Go.Proofs.YtcpkkaimingnlaaGreatDoor
open Go.RowKit

theorem cell_keep {W : World} {a : Addr} {v : Value} (h : W.cell? a = some v) {o : Obj} : (W.drew.alloc o).cell? a = some v := by
  have h' : W.drew.cell? a = some v := h
  rw [World.cell?_alloc_some W.drew a o (by rw [h']; rfl)]; exact h'
theorem rprint_val (l : Link) (h : sB l) (w : World) : Calls Tryz.prog 71 #[.agg (lcs l).toArray] w fun e w' => e = .returned (.string (bs (printL l))) ∧ Below w.heap.size w w' :=
  rprint_any l w ⟨by have := h.1; omega, by have := h.2.1; omega, h.2.2.1⟩ (by have := h.2.2.2.1; omega) (by have := h.2.2.2.2.1; omega) (by have := h.2.2.2.2.2; omega)
set_option maxHeartbeats 16000000 in
set_option maxRecDepth 100000 in
theorem rhear_moved (per now : Int) (r : RSrc) (lost : Bool) (st : Int) (loc et mo lb : Bs) (Ab : Option Addr) (cb : Nat) (P : Nat → Prop) (g gr i n cap : Nat) (pre post : List Value) (w : World)
    (hi : i < n) (hcap : n ≤ cap ∧ cap ≤ 9223372036854775807) (hsrc : Blk w gr 64 (pre ++ rcs r ++ post)) (hhead : Blk w g 62 [.int .i64 per, .int .i64 now, .slice (some ⟨gr, 0, none⟩) n cap]) (hled : LedRd w P r) (hne : g ≠ gr) (hP : ∀ b, P b → b ≠ gr) (hP2 : ∀ b, w.heap.size ≤ b → P b) (hpre : pre.length = i * 8)
    (hout : r.out = true) (hok : SOk (toS r)) (hper : 1 ≤ per ∧ per ≤ 1048576) (hnow : 0 ≤ now ∧ now ≤ 1000000000) (hll : lb.length ≤ 1000000000) (hloc : loc.length ≤ 1000000) (het : et.length ≤ 1000000) (hmo : mo.length ≤ 1000000) (hmv : st = 301 ∨ st = 302 ∨ st = 303 ∨ st = 307 ∨ st = 308) (h5 : r.led.length < 5) :
    Calls Tryz.prog 33 #[ptr g, .int .i64 ((i : Nat) : Int), .agg (acs ⟨false, st, loc, et, mo, .slice Ab lb.length cb⟩).toArray] w (RHQ per now r ⟨false, st, loc, et, mo, .slice Ab lb.length cb⟩ lb.length P g gr (i * 8) pre post [.int .i64 per, .int .i64 now, .slice (some ⟨gr, 0, none⟩) n cap] w) := by
  obtain ⟨a, ha⟩ : ∃ a : Ans, a = ⟨false, st, loc, et, mo, .slice Ab lb.length cb⟩ := ⟨_, rfl⟩
  obtain ⟨hd, hhd⟩ : ∃ hd : List Value, hd = [.int .i64 per, .int .i64 now, .slice (some ⟨gr, 0, none⟩) n cap] := ⟨_, rfl⟩
  obtain ⟨o, ho⟩ : ∃ o, o = i * 8 := ⟨_, rfl⟩
  rw [← ho] at hpre
  rw [← hhd] at hhead
  rw [← ha, ← hhd, ← ho]
  have HHD := Lib.hid hhd
  have HAA := Lib.hid ha
  have H0 := Lib.hid (RHS.start (a := a) hsrc hhead hled hne hP hpre)
  have HP2 := Lib.hid hP2
  have HOK := Lib.hid hok
  have hlen5 : r.led.length ≤ 5 := hok.hops
  have hf6 : 0 ≤ r.fails ∧ r.fails ≤ 6 := hok.fails
  have t0 : decide ((i : Int) < 0) = false := decide_eq_false (by omega)
  have t1 : decide ((i : Int) ≥ (n : Int)) = false := decide_eq_false (by omega)
  have t2 : decide ((n : Int) ≤ (i : Int)) = false := decide_eq_false (by omega)
  have t3 : decide (n ≤ i) = false := decide_eq_false (by omega)
  have s7 := H0.out.sc 7 (.bool true) (by rw [← hout]; rfl)
  have g2 := H0.out.hc 2 (.slice (some ⟨gr, 0, none⟩) n cap) (by rw [hhd]; rfl)
  clear hsrc hhead hled hne hP hP2 hpre hok ha hhd hout
  rw [ho] at s7
  have HO2 := Lib.hid ho
  clear ho
  unfold ptr
  go_enter Tryz.func33, Tryz.ntmps33
  go_upto_region 4 with fail
  clear t0 t1 t2 t3 s7 g2
  rw [← HO2.out]
  clear HO2
  obtain ⟨nl, hnl⟩ : ∃ nl, nl = r.led.length := ⟨_, rfl⟩
  rw [← hnl] at hlen5
  have HNL := Lib.hid hnl
  clear hnl hi hcap
  go_upto_region 6 with ((with_reducible refine atC 48 ?_); refine wpList_storeC rfl 4 (.tmp 48) (.const (.bool false)) rfl gr (o + 7) (.bool false) (by rfl) (by rfl) rfl info4 64 _ H0.out.src (H0.out.lts (by decide)) ?_; intro X1 hb1 ht1; have H1 := Lib.hid (H0.out.put 7 (.bool false) (by decide) { r with out := false } rfl (fun h => h.like rfl rfl rfl) hb1 ht1); have s1 := H1.out.sc 1 (.slice r.ledA nl r.ledC) (by rw [HNL.out]; rfl); clear hb1 ht1)
  clear H0 s1
  have a0 := H1.out.ac 0 (.bool false) (by rw [HAA.out]; rfl)
  have a1 := H1.out.ac 1 (.int .i64 st) (by rw [HAA.out]; rfl)
  have a5 := H1.out.ac 5 (.slice Ab lb.length cb) (by rw [HAA.out]; rfl)
  have n200 : (st == 200) = false := by rw [beq_eq_false_iff_ne]; omega
  have n304 : (st == 304) = false := by rw [beq_eq_false_iff_ne]; omega
  have u1 : decide ((nl : Int) < 5) = true := decide_eq_true (by rw [HNL.out]; omega)
  have u2 : decide (nl < 5) = true := decide_eq_true (by rw [HNL.out]; omega)
  have HMV := Lib.hid hmv
  have h200 : ¬ (a.lost = false ∧ a.status = 200 ∧ lb.length ≤ 65536) := fun h => by
    have : st = 200 := by have := h.2.1; rw [HAA.out] at this; exact this
    omega
  have h304 : ¬ (a.lost = false ∧ a.status = 304 ∧ r.led.length = 0 ∧ r.etag ++ r.mod ≠ []) := fun h => by
    have : st = 304 := by have := h.2.1; rw [HAA.out] at this; exact this
    omega
  have hled : ledP (toS r) st loc = match resolveP ((parseP (askedP (toS r))).getD Link.zero) loc with
      | none => none
      | some l => if (printL (bareF l)).length ≤ 2048 then some (printL (bareF l)) else none := by
    unfold ledP
    rw [if_pos ⟨by unfold moved; rcases hmv with h | h | h | h | h <;> rw [h] <;> rfl, h5⟩]
    rfl
  have H200 := Lib.hid h200
  have H304 := Lib.hid h304
  have HLED := Lib.hid hled
  clear h200 h304 hled h5 hmv
  go_upto_region 19 with fail
  go_cut [10] (fun v wx => v = .bool true ∧ wx = X1)
  case first =>
    as_aux_lemma =>
      have hmv := HMV.out
      clear HMV H200 H304 HLED HAA
      rcases hmv with rfl | rfl | rfl | rfl | rfl
      all_goals go_wp2_with fail
      all_goals go_meet
      all_goals exact ⟨rfl, rfl⟩
  case rest =>
    as_aux_lemma =>
      obtain ⟨rfl, rfl⟩ := hcut
      clear a1 n200 n304
      have s0 := (show wc.cell? ⟨gr, o, none⟩ = some (.string (bs r.own)) from H1.out.sc 0 (.string (bs r.own)) rfl)
      obtain ⟨bl, hbl⟩ : ∃ bl, bl = decide (0 < nl) := ⟨_, rfl⟩
      have t1 : decide ((nl : Int) > 0) = bl := by rw [hbl, Bool.eq_iff_iff, decide_eq_true_eq, decide_eq_true_eq]; omega
      have t3 : decide (0 < nl) = bl := hbl.symm
      have HBL := Lib.hid hbl
      clear hbl
      go_upto_if 196 with fail
      clear t1 t3 u1 u2 s0
      go_cut [11] (fun v wx => v = .string (bs (askedP (toS r))) ∧ wx = wc)
      case first =>
        as_aux_lemma =>
          clear HMV H200 H304 HLED HAA a0 a5
          cases bl with
          | false =>
            have e := Lib.hid (show askedP (toS r) = r.own by unfold askedP; rw [if_pos (show (toS r).hops = 0 by show r.led.length = 0; have := of_decide_eq_false HBL.out.symm; rw [HNL.out] at this; omega)]; rfl)
            clear HBL
            go_wp2_with fail
            go_meet
            exact ⟨by rw [e.out], rfl⟩
          | true =>
            have hz : 0 < nl := of_decide_eq_true HBL.out.symm
            have e := Lib.hid (show askedP (toS r) = lastL r by unfold askedP; rw [if_neg (show ¬ (toS r).hops = 0 by show ¬ r.led.length = 0; rw [← HNL.out]; omega)]; rfl)
            clear HBL
            have s1 := H1.out.sc 1 (.slice r.ledA nl r.ledC) (by rw [HNL.out]; rfl)
            have hl0 := H1.out.led.at'
            have hl0 : r.led = [] ∨ ∃ b, r.ledA = some ⟨b, 0, none⟩ ∧ P b ∧ b < wc.heap.size ∧ ∀ j, j < r.led.length → wc.cell? ⟨b, j, none⟩ = some (.string (bs (r.led.getD j []))) := hl0
            obtain ⟨b, hAl, _, hbX, hcl⟩ := hl0.resolve_left (fun e => by rw [HNL.out, e] at hz; cases hz)
            have hv : IntKind.i64.wrap ((nl : Int) - 1) = ((nl - 1 : Nat) : Int) := by rw [IntWalk.i64_in _ (by omega)]; omega
            have hlt : nl - 1 < nl := by omega
            have hc1 := hcl (nl - 1) (by rw [← HNL.out]; exact hlt)
            have e2 := Lib.hid (show lastL r = r.led.getD (nl - 1) [] by unfold lastL; rw [HNL.out])
            rw [hAl] at s1
            clear hcl hAl hl0
            generalize r.led.getD (nl - 1) [] = ls at *
            generalize nl - 1 = l1 at *
            go_wp2_with fail
            go_meet
            exact ⟨by rw [e.out, e2.out], rfl⟩
      case rest =>
        as_aux_lemma =>
          obtain ⟨rfl, rfl⟩ := hcut
          have hal : (askedP (toS r)).length ≤ 9223372036854775807 := by have := HOK.out.own; have := HOK.out.beside; unfold askedP; split <;> omega
          have hpa := Lib.hid (fun W => rparse_val (askedP (toS r)) W hal)
          have hB := sB_get (askedP (toS r))
          have hLD := HLED.out
          obtain ⟨X, hX⟩ : ∃ X, X = (parseP (askedP (toS r))).getD Link.zero := ⟨_, rfl⟩
          obtain ⟨pk, hpk⟩ : ∃ pk, pk = (parseP (askedP (toS r))).isSome := ⟨_, rfl⟩
          rw [← hX] at hB hLD hpa
          rw [← hpk] at hpa
          have hre := fun W => rresolve_any X loc W hB hloc
          have a2 := H1.out.ac 2 (.string (bs loc)) (by rw [HAA.out]; rfl)
          generalize bs (askedP (toS r)) = SA at *
          clear hal hX hpk HLED HBL a0 a5
          have HB := Lib.hid hB
          clear hB
          cases hres : resolveP X loc with
          | none =>
            rw [hres] at hLD hre
            have hre : ∀ W, Calls Tryz.prog 18 #[.agg (lcs X).toArray, .string (bs loc)] W fun e w' => e = .returned (.tuple #[.agg (lcs Link.zero).toArray, .bool false]) ∧ Below W.heap.size W w' := hre
            have HRE := Lib.hid hre
            have hrh := fun A' c' => rh_none (per := per) (now := now) (r := r) (a := a) (n := lb.length) (A' := A') (c' := c') H200.out H304.out (by rw [HAA.out]; exact .inr hLD)
            clear hre hres hLD H200 H304
            go_upto_region 28 with (first | (go_at_call 15; refine (hpa.out _).mono ?_; rintro e w3 ⟨rfl, hb1⟩; have H2 := Lib.hid (H1.out.call hb1); clear hb1) | ((with_reducible refine atS 12 208 ?_); refine wpList_storeL rfl (.tmp 12) (.tmp 208) rfl w3.heap.size (lcs X).toArray (by rfl) (by rfl) zcs (new_zcs w3) rfl rfl rfl ?_; intro X2 hb1 ht1; have HX := Lib.hid (show Blk X2 w3.heap.size 24 (lcs X) from hb1); have H3 := Lib.hid (H2.out.call (ht1.below w3.heap.size w3 (Nat.le_refl _) (below_one w3 _))); have a2 := H3.out.ac 2 (.string (bs loc)) (by rw [HAA.out]; rfl); clear hb1 ht1) | ((with_reducible refine atD 211 ?_); refine wpList_loadW (by rfl) (.tmp 12) rfl w3.heap.size (by rfl) X HX.out ?_) | (go_at_call 18; refine (HRE.out _).mono ?_; rintro e w4 ⟨rfl, hb1⟩; have H4 := Lib.hid (H3.out.call hb1); clear hb1) | ((with_reducible refine atS 14 215 ?_); refine wpList_storeL rfl (.tmp 14) (.tmp 215) rfl w4.heap.size (lcs Link.zero).toArray (by rfl) (by rfl) zcs (new_zcs w4) rfl rfl rfl ?_; intro X5 hb1 ht1; have HY5 := Lib.hid (show Blk X5 w4.heap.size 24 (lcs Link.zero) from hb1); have HW5 := Lib.hid (ht1.below w4.heap.size w4 (Nat.le_refl _) (below_one w4 _)); clear hb1 ht1) | ((with_reducible refine atC 217 ?_); refine wpList_storeC rfl 4 (.tmp 217) (.const (.bool false)) rfl w4.heap.size 7 (.bool false) (by rfl) (by rfl) rfl info4 24 _ HY5.out (by exact Nat.le_of_ble_eq_true rfl) ?_; intro X6 hb1 ht1; have HY6 := Lib.hid hb1; have HW6 := Lib.hid (ht1.below w4.heap.size w4 (Nat.le_refl _) HW5.out); clear hb1 ht1) | ((with_reducible refine atC 218 ?_); refine wpList_storeC rfl 9 (.tmp 218) (.const (.string ⟨#[]⟩)) rfl w4.heap.size 5 (.string ⟨#[]⟩) (by rfl) (by rfl) rfl info9 24 _ HY6.out (by exact Nat.le_of_ble_eq_true rfl) ?_; intro X7 hb1 ht1; have HY7 := Lib.hid (show Blk X7 w4.heap.size 24 (lcs (bareF Link.zero)) from hb1); have HW7 := Lib.hid (ht1.below w4.heap.size w4 (Nat.le_refl _) HW6.out); clear hb1 ht1))
            try simp only [Act.put, List.getElem_toArray, List.getElem_cons_succ, List.getElem_cons_zero, List.setIfInBounds_toArray, List.set_cons_zero, List.set_cons_succ]
            have H7 := Lib.hid (H4.out.call HW7.out)
            have hgr4 : w4.heap.size ≠ gr := fun e => by have := H4.out.lt; have := H4.out.only.size; omega
            clear H1 H2 H3 H4 HX HY5 HY6 HW5 HW6 HW7 hpa HRE a2
            obtain ⟨f, hf1, hf2⟩ : ∃ f : Nat, ((f : Nat) : Int) = min (r.fails + 1) 6 ∧ f ≤ 6 := ⟨(min (r.fails + 1) 6).toNat, by omega, by omega⟩
            rw [← hf1, Int.toNat_natCast] at hrh
            have HF1 := Lib.hid hf1
            have HRH := Lib.hid hrh
            have v1 : IntKind.i64.wrap (r.fails + 1) = r.fails + 1 := IntWalk.i64_in _ (by omega)
            clear hf1 hrh
            go_upto_region 37 with (first | ((with_reducible refine atC 271 ?_); refine wpList_storeC rfl 38 (.tmp 271) (.const (.slice none 0 0)) rfl gr (o + 1) (.slice none 0 0) (by rfl) (by rfl) rfl info38 64 _ H7.out.src (H7.out.lts (k := 1) (by decide)) ?_; intro XA hb1 ht1; have HA := Lib.hid (H7.out.put 1 (.slice none 0 0) (by decide) { r with out := false, ledA := none, ledC := 0, led := [] } rfl (fun _ => LedRd.nil rfl (Nat.zero_le _)) hb1 ht1); have k4 := HA.out.sc 4 (.int .i64 r.fails) rfl; clear hb1 ht1) | ((with_reducible refine atS 280 278 ?_); refine wpList_storeC rfl 3 (.tmp 280) (.tmp 278) rfl gr (o + 4) (.int .i64 ((f : Nat) : Int)) (by rfl) (by rw [HF1.out]; rfl) rfl info3 64 _ HA.out.src (HA.out.lts (k := 4) (by decide)) ?_; intro XB hb1 ht1; have HB := Lib.hid (HA.out.put 4 (.int .i64 ((f : Nat) : Int)) (by decide) { r with out := false, ledA := none, ledC := 0, led := [], fails := ((f : Nat) : Int) } rfl (fun h => h.like rfl rfl rfl) hb1 ht1); clear hb1 ht1))
            try simp only [Act.put, List.getElem_toArray, List.getElem_cons_succ, List.getElem_cons_zero, List.setIfInBounds_toArray, List.set_cons_zero, List.set_cons_succ]
            clear HA v1 H7
            have g0 := HB.out.hc 0 (.int .i64 per) (by rw [HHD.out]; rfl)
            go_wp2_with fail
            go_loopw [16, 17] (fun wv kv wx => ∃ (k : Nat) (Wk : Int), wv = .int .i64 Wk ∧ kv = .int .i64 (k : Int) ∧ k ≤ f ∧ (1 ≤ Wk ∧ Wk ≤ 67108864) ∧ Hid (Wk = per * 2 ^ k) ∧ Hid (RHS w wx P g gr o pre post hd { r with out := false, ledA := none, ledC := 0, led := [], fails := ((f : Nat) : Int) } a)) (fun _ kv _ => f - (intOf kv).toNat)
            case atStart => exact ⟨0, per, rfl, rfl, Nat.zero_le _, ⟨hper.1, by omega⟩, Lib.hid (by simp), HB⟩
            case round =>
              obtain ⟨k, Wk, rfl, rfl, hk, hW, HW, HB2⟩ := hrel
              clear HB g0
              have k4 := HB2.out.sc 4 (.int .i64 ((f : Nat) : Int)) rfl
              by_cases hkf : k < f
              · have tk : decide ((k : Int) < (f : Int)) = true := decide_eq_true (by omega)
                have tk2 : decide (k < f) = true := decide_eq_true hkf
                have hp := pow_bound per ((k + 1 : Nat) : Int) hper (by omega)
                rw [Int.toNat_natCast] at hp
                have e2 : 2 * Wk = per * 2 ^ (k + 1) := by rw [HW.out, Int.pow_succ]; rw [Int.mul_comm (2 ^ k) 2, ← Int.mul_assoc, ← Int.mul_assoc, Int.mul_comm per 2]
                rw [← e2] at hp
                have HW2 := Lib.hid e2
                have v2 : IntKind.i64.wrap (2 * Wk) = 2 * Wk := IntWalk.i64_in _ (by omega)
                clear e2 HW
                go_wp2_with fail
                exact ⟨⟨k + 1, 2 * Wk, rfl, by go_num, by omega, hp, HW2, HB2⟩, by simp [intOf]; omega⟩
              · have tk : decide ((k : Int) < (f : Int)) = false := decide_eq_false (by omega)
                have tk2 : decide (k < f) = false := decide_eq_false hkf
                have hkf2 : k = f := by omega
                have g1 := HB2.out.hc 1 (.int .i64 now) (by rw [HHD.out]; rfl)
                have v3 : IntKind.i64.wrap (now + Wk) = now + Wk := IntWalk.i64_in _ (by omega)
                have e3 := HRH.out none 0
                rw [← hkf2, ← HW.out, hkf2] at e3
                have HR2 := Lib.hid e3
                clear e3 HRH HW hkf2
                go_wp2_with ((with_reducible refine atS 303 301 ?_); refine wpList_storeC rfl 3 (.tmp 303) (.tmp 301) rfl gr (o + 3) (.int .i64 (now + Wk)) (by rfl) (by rfl) rfl info3 64 _ HB2.out.src (HB2.out.lts (k := 3) (by decide)) ?_; intro XC hb1 ht1; have HC := Lib.hid (HB2.out.put 3 (.int .i64 (now + Wk)) (by decide) { r with out := false, ledA := none, ledC := 0, led := [], fails := ((f : Nat) : Int), due := now + Wk } rfl (fun h => h.like rfl rfl rfl) hb1 ht1); clear hb1 ht1)
                go_ret2
                exact RHQ.mk none 0 HR2.out HC.out
          | some Y =>
            rw [hres] at hLD hre
            have hre : ∀ W, Calls Tryz.prog 18 #[.agg (lcs X).toArray, .string (bs loc)] W fun e w' => e = .returned (.tuple #[.agg (lcs Y).toArray, .bool true]) ∧ Below W.heap.size W w' := hre
            have HRE := Lib.hid hre
            have hback := resolve_back hres
            have hY := (sB_parse hback).1
            have hpr := Lib.hid (fun W => rprint_val (bareF Y) (sB_bareF hY) W)
            have hpz : (bs (printL (bareF Y))).size = (printL (bareF Y)).length := bs_size _
            have hLD : ledP (toS r) st loc = if (printL (bareF Y)).length ≤ 2048 then some (printL (bareF Y)) else none := hLD
            clear hre hres hback hY
            obtain ⟨T, hT⟩ : ∃ T, T = printL (bareF Y) := ⟨_, rfl⟩
            rw [← hT] at hpr hpz hLD
            clear hT
            go_upto_region 28 with (first | (go_at_call 15; refine (hpa.out _).mono ?_; rintro e w3 ⟨rfl, hb1⟩; have H2 := Lib.hid (H1.out.call hb1); clear hb1) | ((with_reducible refine atS 12 208 ?_); refine wpList_storeL rfl (.tmp 12) (.tmp 208) rfl w3.heap.size (lcs X).toArray (by rfl) (by rfl) zcs (new_zcs w3) rfl rfl rfl ?_; intro X2 hb1 ht1; have HX := Lib.hid (show Blk X2 w3.heap.size 24 (lcs X) from hb1); have H3 := Lib.hid (H2.out.call (ht1.below w3.heap.size w3 (Nat.le_refl _) (below_one w3 _))); have a2 := H3.out.ac 2 (.string (bs loc)) (by rw [HAA.out]; rfl); clear hb1 ht1) | ((with_reducible refine atD 211 ?_); refine wpList_loadW (by rfl) (.tmp 12) rfl w3.heap.size (by rfl) X HX.out ?_) | (go_at_call 18; refine (HRE.out _).mono ?_; rintro e w4 ⟨rfl, hb1⟩; have H4 := Lib.hid (H3.out.call hb1); clear hb1) | ((with_reducible refine atS 14 215 ?_); refine wpList_storeL rfl (.tmp 14) (.tmp 215) rfl w4.heap.size (lcs Y).toArray (by rfl) (by rfl) zcs (new_zcs w4) rfl rfl rfl ?_; intro X5 hb1 ht1; have HY5 := Lib.hid (show Blk X5 w4.heap.size 24 (lcs Y) from hb1); have HW5 := Lib.hid (ht1.below w4.heap.size w4 (Nat.le_refl _) (below_one w4 _)); clear hb1 ht1) | ((with_reducible refine atC 217 ?_); refine wpList_storeC rfl 4 (.tmp 217) (.const (.bool false)) rfl w4.heap.size 7 (.bool false) (by rfl) (by rfl) rfl info4 24 _ HY5.out (by exact Nat.le_of_ble_eq_true rfl) ?_; intro X6 hb1 ht1; have HY6 := Lib.hid hb1; have HW6 := Lib.hid (ht1.below w4.heap.size w4 (Nat.le_refl _) HW5.out); clear hb1 ht1) | ((with_reducible refine atC 218 ?_); refine wpList_storeC rfl 9 (.tmp 218) (.const (.string ⟨#[]⟩)) rfl w4.heap.size 5 (.string ⟨#[]⟩) (by rfl) (by rfl) rfl info9 24 _ HY6.out (by exact Nat.le_of_ble_eq_true rfl) ?_; intro X7 hb1 ht1; have HY7 := Lib.hid (show Blk X7 w4.heap.size 24 (lcs (bareF Y)) from hb1); have HW7 := Lib.hid (ht1.below w4.heap.size w4 (Nat.le_refl _) HW6.out); clear hb1 ht1))
            try simp only [Act.put, List.getElem_toArray, List.getElem_cons_succ, List.getElem_cons_zero, List.setIfInBounds_toArray, List.set_cons_zero, List.set_cons_succ]
            have H7 := Lib.hid (H4.out.call HW7.out)
            have hgr4 : w4.heap.size ≠ gr := fun e => by have := H4.out.lt; have := H4.out.only.size; omega
            clear H1 H2 H3 H4 HX HY5 HY6 HW5 HW6 HW7 hpa HRE a2
            by_cases hl2 : T.length ≤ 2048
            · rw [if_pos hl2] at hLD
              have u1 : decide ((T.length : Int) ≤ 2048) = true := decide_eq_true (by omega)
              have u2 : decide (T.length ≤ 2048) = true := decide_eq_true hl2
              have hrh := fun A' c' => rh_led (per := per) (now := now) (r := r) (a := a) (n := lb.length) (A' := A') (c' := c') (by rw [HAA.out]) (show ledP (toS r) a.status a.loc = some T by rw [HAA.out]; exact hLD)
              have HRH := Lib.hid hrh
              clear hrh hLD hl2 H200 H304
              obtain ⟨bz, hbz⟩ : ∃ bz, bz = decide (nl = 0) := ⟨_, rfl⟩
              have t5 : ((nl : Int) == 0) = bz := by rw [hbz, Bool.eq_iff_iff, beq_iff_eq, decide_eq_true_eq]; omega
              have HBZ := Lib.hid hbz
              clear hbz
              go_upto_if 227 with (first | ((with_reducible refine atD 221 ?_); refine wpList_loadW (by rfl) (.tmp 14) rfl w4.heap.size (by rfl) (bareF Y) HY7.out ?_) | (go_at_call 71; refine (hpr.out _).mono ?_; rintro e w8 ⟨rfl, hb1⟩; have H8 := Lib.hid (H7.out.call hb1); have HY8 := Lib.hid (blk_below HY7.out hb1 (blk_lt HY7.out)); clear hb1))
              clear u1 u2 t5 H7 HY7
              go_cut [9] (fun v wx => v = .int .i64 ((nl : Nat) : Int) ∧ Hid (RHS w wx P g gr o pre post hd { r with out := false, lasting := bz || r.lasting } a) ∧ Hid (Blk wx w4.heap.size 24 (lcs (bareF Y))))
              case first =>
                as_aux_lemma =>
                  cases bz with
                  | true =>
                    clear HRH
                    go_wp2_with ((with_reducible refine atC 230 ?_); refine wpList_storeC rfl 4 (.tmp 230) (.const (.bool true)) rfl gr (o + 2) (.bool true) (by rfl) (by rfl) rfl info4 64 _ H8.out.src (H8.out.lts (k := 2) (by decide)) ?_; intro X9 hb1 ht1; have H9 := Lib.hid (H8.out.put 2 (.bool true) (by decide) { r with out := false, lasting := true } rfl (fun h => h.like rfl rfl rfl) hb1 ht1); have HY9 := Lib.hid (ht1.blk HY8.out hgr4); clear hb1 ht1)
                    go_meet
                    exact ⟨rfl, H9, HY9⟩
                  | false =>
                    clear HRH
                    go_wp2_with fail
                    go_meet
                    exact ⟨rfl, H8, HY8⟩
              case rest =>
                as_aux_lemma =>
                  obtain ⟨rfl, H9, HY9⟩ := hcut
                  clear H8 HY8
                  obtain ⟨la, hla⟩ : ∃ la, la = (bz || r.lasting) := ⟨_, rfl⟩
                  rw [← hla] at H9
                  have HLA := Lib.hid hla
                  clear hla
                  obtain ⟨b1, hb1⟩ : ∃ b, b = decide (st = 301) := ⟨_, rfl⟩
                  obtain ⟨b2, hb2⟩ : ∃ b, b = decide (st = 308) := ⟨_, rfl⟩
                  have q1 : (st == 301) = b1 := by rw [hb1, Bool.eq_iff_iff, beq_iff_eq, decide_eq_true_eq]
                  have q2 : (st == 308) = b2 := by rw [hb2, Bool.eq_iff_iff, beq_iff_eq, decide_eq_true_eq]
                  have HB1 := Lib.hid hb1
                  have HB2 := Lib.hid hb2
                  clear hb1 hb2
                  have a1 := H9.out.ac 1 (.int .i64 st) (by rw [HAA.out]; rfl)
                  have s2 := H9.out.sc 2 (.bool la) rfl
                  go_upto_region 31 with fail
                  go_cut [246] (fun v wx => v = .pointer (some ⟨gr, o, none⟩) ∧ Hid (RHS w wx P g gr o pre post hd { r with out := false, lasting := (la && (b1 || b2)) } a) ∧ Hid (Blk wx w4.heap.size 24 (lcs (bareF Y))))
                  case first =>
                    as_aux_lemma =>
                      clear HRH HMV HB1 HB2 HLA HBZ
                      cases la with
                      | false =>
                        go_wp2_with ((with_reducible refine atS 247 245 ?_); refine wpList_storeC rfl 4 (.tmp 247) (.tmp 245) rfl gr (o + 2) (.bool false) (by rfl) (by rfl) rfl info4 64 _ H9.out.src (H9.out.lts (k := 2) (by decide)) ?_; intro X10 hb1 ht1; have H10 := Lib.hid (H9.out.put 2 (.bool false) (by decide) { r with out := false, lasting := false } rfl (fun h => h.like rfl rfl rfl) hb1 ht1); have HY10 := Lib.hid (ht1.blk HY9.out hgr4); clear hb1 ht1)
                        go_meet
                        exact ⟨rfl, H10, HY10⟩
                      | true =>
                        cases b1 with
                        | true =>
                          go_wp2_with ((with_reducible refine atS 247 245 ?_); refine wpList_storeC rfl 4 (.tmp 247) (.tmp 245) rfl gr (o + 2) (.bool true) (by rfl) (by rfl) rfl info4 64 _ H9.out.src (H9.out.lts (k := 2) (by decide)) ?_; intro X10 hb1 ht1; have H10 := Lib.hid (H9.out.put 2 (.bool true) (by decide) { r with out := false, lasting := true } rfl (fun h => h.like rfl rfl rfl) hb1 ht1); have HY10 := Lib.hid (ht1.blk HY9.out hgr4); clear hb1 ht1)
                          go_meet
                          exact ⟨rfl, H10, HY10⟩
                        | false =>
                          go_wp2_with ((with_reducible refine atS 247 245 ?_); refine wpList_storeC rfl 4 (.tmp 247) (.tmp 245) rfl gr (o + 2) (.bool b2) (by rfl) (by rfl) rfl info4 64 _ H9.out.src (H9.out.lts (k := 2) (by decide)) ?_; intro X10 hb1 ht1; have H10 := Lib.hid (H9.out.put 2 (.bool b2) (by decide) { r with out := false, lasting := b2 } rfl (fun h => h.like rfl rfl rfl) hb1 ht1); have HY10 := Lib.hid (ht1.blk HY9.out hgr4); clear hb1 ht1)
                          go_meet
                          exact ⟨rfl, H10, HY10⟩
                  case rest =>
                    as_aux_lemma =>
                      obtain ⟨rfl, H10, HY10⟩ := hcut
                      clear H9 HY9 q1 q2 a1 s2
                      go_upto_region 32 with fail
                      have hrd := Lib.hid (show Rd wc wc.heap.size 1 r.ledA r.led.length (strs r.led) from H10.out.led.rd)
                      have hsL := Lib.hid (show wc.cell? ⟨gr, o + 1, none⟩ = some (.slice r.ledA r.led.length r.ledC) from H10.out.sc 1 _ rfl)
                      have hlen8 : r.led.length ≤ 5 := HOK.out.hops
                      have v10 : IntKind.i64.wrap (now + 1) = now + 1 := IntWalk.i64_in _ (by omega)
                      have hwc : w4.heap.size < wc.heap.size := blk_lt HY10.out
                      refine wp_region_noPanic ?_
                      refine wp_region_held_drew (S := (fun W => Blk W w4.heap.size 24 (lcs (bareF Y)))) (by kernel_rfl) (by exact (blk_drew HY10.out)) (fun hHeld => ?_)
                      refine wpAnyH_take (i := 0) (v := ?v61) rfl (by kernel_rfl) (by kernel_rfl) (by kernel_rfl) (fun _ _ _ h => h) (Or.inl ⟨by kernel_rfl, ?y61⟩) (by assumption) ?t61
                      case y61 => (intro w hSw; (try dsimp only at hSw); go_simp; try with_reducible rfl)
                      try simp only [Act.put, List.getElem_toArray, List.getElem_cons_succ, List.getElem_cons_zero, List.setIfInBounds_toArray, List.set_cons_zero, List.set_cons_succ]
                      refine wpAnyH_take (i := 2) (v := ?v62) rfl (by kernel_rfl) (by kernel_rfl) (by kernel_rfl) (fun _ _ _ h => h) (Or.inl ⟨by kernel_rfl, ?y62⟩) (by assumption) ?t62
                      case y62 => (intro w hSw; (try dsimp only at hSw); go_simp; try with_reducible rfl)
                      try simp only [Act.put, List.getElem_toArray, List.getElem_cons_succ, List.getElem_cons_zero, List.setIfInBounds_toArray, List.set_cons_zero, List.set_cons_succ]
                      refine wpAnyH_take (i := 3) (v := ?v63) rfl (by kernel_rfl) (by kernel_rfl) (by kernel_rfl) (fun _ _ _ h => h) (Or.inl ⟨by kernel_rfl, ?y63⟩) (by assumption) ?t63
                      case y63 => (intro w hSw; (try dsimp only at hSw); go_simp; try with_reducible rfl)
                      try simp only [Act.put, List.getElem_toArray, List.getElem_cons_succ, List.getElem_cons_zero, List.setIfInBounds_toArray, List.set_cons_zero, List.set_cons_succ]
                      refine wpAnyH_take (i := 4) (v := ?v64) rfl (by kernel_rfl) (by kernel_rfl) (by kernel_rfl) (fun _ _ _ h => h) (Or.inl ⟨by kernel_rfl, ?y64⟩) (by assumption) ?t64
                      case y64 => (intro w hSw; (try dsimp only at hSw); go_simp; try with_reducible rfl)
                      try simp only [Act.put, List.getElem_toArray, List.getElem_cons_succ, List.getElem_cons_zero, List.setIfInBounds_toArray, List.set_cons_zero, List.set_cons_succ]
                      refine wpAnyH_take (i := 7) (v := .agg (lcs (bareF Y)).toArray) rfl (by kernel_rfl) (by kernel_rfl) (by kernel_rfl) (fun _ _ _ h => h) (Or.inl ⟨by kernel_rfl, ?yL⟩) (by assumption) ?_
                      case yL => (intro w hSw; exact run_ld24 (.tmp 14) rfl rfl hSw)
                      try simp only [Act.put, List.getElem_toArray, List.getElem_cons_succ, List.getElem_cons_zero, List.setIfInBounds_toArray, List.set_cons_zero, List.set_cons_succ]
                      refine wpAnyH_ready (rs := [1, 5]) (by kernel_rfl) (by simp) ?_
                      refine AllReadyH.cons rfl (fun KX hKX => ?_) (AllReadyH.cons rfl (fun KX hKX => ?_) AllReadyH.nil)
                      · rw [if_pos (by kernel_rfl)]
                        refine wp_ran2 (run_bs38n rfl) (hKX.out _ _ (by exact blk_alloc (blk_drew HY10.out) _) (fun hHeld => ?_))
                        clear hKX KX
                        try simp only [Act.put, List.getElem_toArray, List.getElem_cons_succ, List.getElem_cons_zero, List.setIfInBounds_toArray, List.set_cons_zero, List.set_cons_succ]
                        refine wpAnyH_ready (rs := [5]) (by kernel_rfl) (by simp) ?_
                        refine AllReadyH.cons rfl (fun KX hKX => ?_) AllReadyH.nil
                        rw [if_pos (by kernel_rfl)]
                        refine wp_ran2 (run_ld38 (v := (.slice r.ledA r.led.length r.ledC)) (.tmp 252) rfl (by rfl) (cell_keep hsL.out)) (hKX.out _ _ (by exact blk_alloc (blk_drew HY10.out) _) (fun hHeld => ?_))
                        clear hKX KX
                        try simp only [Act.put, List.getElem_toArray, List.getElem_cons_succ, List.getElem_cons_zero, List.setIfInBounds_toArray, List.set_cons_zero, List.set_cons_succ]
                        refine wpAnyH_ready (rs := [6]) (by kernel_rfl) (by simp) ?_
                        refine AllReadyH.cons rfl (fun KX hKX => ?_) AllReadyH.nil
                        refine step_copyS rfl (.tmp 249) (.tmp 253) rfl wc.heap.size (by simp) wc.heap.size (by rfl) (SOwn.empty wc.drew wc.heap.size (Nat.le_refl _)) wc.heap.size r.ledA r.led r.ledC (by rfl) ((show Rd wc.drew wc.heap.size 1 r.ledA r.led.length (strs r.led) from hrd.out).keep (below_one wc.drew _)) (by omega) ?_
                        intro A6 c6 w6 ho6 hb6
                        have hB6 : Below wc.heap.size wc w6 := ((Below.refl _ wc).drew).trans ((below_one wc.drew _).trans hb6)
                        have hY6 := blk_base HY10.out hB6 hwc
                        refine hKX.out _ _ (by exact hY6) (fun hHeld => ?_)
                        clear hKX KX
                        try simp only [Act.put, List.getElem_toArray, List.getElem_cons_succ, List.getElem_cons_zero, List.setIfInBounds_toArray, List.set_cons_zero, List.set_cons_succ]
                        have HO6 := Lib.hid ho6
                        have HB6 := Lib.hid hB6
                        clear ho6 hb6 hB6 hY6
                        refine wpAnyH_ready (rs := [8]) (by kernel_rfl) (by simp) ?_
                        refine AllReadyH.cons rfl (fun KX hKX => ?_) AllReadyH.nil
                        rw [if_pos (by kernel_rfl)]
                        refine wp_callK (run_call71 (l := bareF Y) (.tmp 255) rfl (by rfl)) (hpr.out w6) ?_
                        rintro e w8' ⟨rfl, hb8⟩
                        refine ⟨_, rfl, ?_⟩
                        have hB8 : Below wc.heap.size wc w8' := HB6.out.trans (hb8.mono HB6.out.size)
                        have ho8 : SOwn w8' wc.heap.size (.slice A6 r.led.length c6) r.led := HO6.out.keep hb8
                        refine hKX.out _ _ (by exact blk_base HY10.out hB8 hwc) (fun hHeld => ?_)
                        clear hKX KX
                        try simp only [Act.put, List.getElem_toArray, List.getElem_cons_succ, List.getElem_cons_zero, List.setIfInBounds_toArray, List.set_cons_zero, List.set_cons_succ]
                        have HO8 := Lib.hid ho8
                        have HB8 := Lib.hid hB8
                        clear ho8 hB8 hb8 HO6 HB6
                        refine wpAnyH_ready (rs := [9]) (by kernel_rfl) (by simp) ?_
                        refine AllReadyH.cons rfl (fun KX hKX => ?_) AllReadyH.nil
                        rw [if_pos (by kernel_rfl)]
                        refine wp_ran2 (run_bs38o (T := T) (.tmp 256) rfl (by rfl)) (hKX.out _ _ (by exact blk_base HY10.out (HB8.out.alloc HB8.out.size _) hwc) (fun hHeld => ?_))
                        clear hKX KX
                        try simp only [Act.put, List.getElem_toArray, List.getElem_cons_succ, List.getElem_cons_zero, List.setIfInBounds_toArray, List.set_cons_zero, List.set_cons_succ]
                        refine wpAnyH_ready (rs := [10]) (by kernel_rfl) (by simp) ?_
                        refine AllReadyH.cons rfl (fun KX hKX => ?_) AllReadyH.nil
                        refine step_push rfl (.tmp 254) (.tmp 257) 38 rfl wc.heap.size 9 _ 1 16 Tryz.underlying38 infoS rfl (by decide) (.slice A6 r.led.length c6) r.led.length (strs r.led) (by rfl) (World.ownsRow.alloc HO8.out _) w8'.heap.size [.string (bs T)] 1 (by decide) (by rfl) (blk_new w8' 9 #[.string (bs T)]) rfl rfl (by omega) (by omega) (by have := HB8.out.size; simp; omega) ?_
                        intro g10 c10 w10 ho10 _ hb10 _
                        have hB10 : Below wc.heap.size wc w10 := (HB8.out.alloc HB8.out.size _).trans hb10
                        refine hKX.out _ _ (by exact blk_base HY10.out hB10 hwc) (fun hHeld => ?_)
                        clear hKX KX
                        try simp only [Act.put, List.getElem_toArray, List.getElem_cons_succ, List.getElem_cons_zero, List.setIfInBounds_toArray, List.set_cons_zero, List.set_cons_succ]
                        refine wpAnyH_take (i := 11) (v := ?v65) rfl (by kernel_rfl) (by kernel_rfl) (by kernel_rfl) (fun _ _ _ h => h) (Or.inl ⟨by kernel_rfl, ?y65⟩) (by assumption) ?t65
                        case y65 => (intro w hSw; (try dsimp only at hSw); go_simp; try with_reducible rfl)
                        try simp only [Act.put, List.getElem_toArray, List.getElem_cons_succ, List.getElem_cons_zero, List.setIfInBounds_toArray, List.set_cons_zero, List.set_cons_succ]
                        refine wpAnyH_take (i := 12) (v := ?v66) rfl (by kernel_rfl) (by kernel_rfl) (by kernel_rfl) (fun _ _ _ h => h) (Or.inl ⟨by kernel_rfl, ?y66⟩) (by assumption) ?t66
                        case y66 => (intro w hSw; (try dsimp only at hSw); go_simp; try with_reducible rfl)
                        try simp only [Act.put, List.getElem_toArray, List.getElem_cons_succ, List.getElem_cons_zero, List.setIfInBounds_toArray, List.set_cons_zero, List.set_cons_succ]
                        have H11 := Lib.hid (H10.out.call hB10)
                        have ho11 : SOwn w10 wc.heap.size (.slice (some ⟨g10, 0, none⟩) (r.led ++ [T]).length c10) (r.led ++ [T]) := by
                          unfold SOwn
                          rw [List.length_append, show strs (r.led ++ [T]) = strs r.led ++ [.string (bs T)] by simp [strs]]
                          exact ho10
                        have HL11 := Lib.hid (fun (P' : Nat → Prop) (hP' : ∀ b, wc.heap.size ≤ b → P' b) (r' : RSrc) (h1 : r'.led = r.led ++ [T]) (h2 : r'.ledA = some ⟨g10, 0, none⟩) (h3 : r'.ledC = c10) => LedRd.own (P := P') ho11 hP' h1 h2 h3)
                        have hY10 := Lib.hid (blk_base HY10.out hB10 hwc)
                        have hwle : w.heap.size ≤ wc.heap.size := H10.out.only.size
                        clear ho10 hb10 hB10 ho11 HO8 HB8
                        refine wpAnyH_storeC 13 rfl (by kernel_rfl) (by kernel_rfl) 38 (.tmp 260) (.tmp 258) rfl gr (o + 1) (.slice (some ⟨g10, 0, none⟩) (r.led.length + 1) c10) (by rfl) (by rfl) rfl info38 64 _ H11.out.src (H11.out.lts (by decide)) ?_
                        intro X12 hb1 ht1
                        have H12 := Lib.hid (H11.out.put 1 (.slice (some ⟨g10, 0, none⟩) (r.led.length + 1) c10) (by decide) { r with out := false, lasting := (la && (b1 || b2)), ledA := some ⟨g10, 0, none⟩, ledC := c10, led := r.led ++ [T] } (by unfold rcs; rw [List.length_append]; rfl) (fun _ => HL11.out P (fun b hb => HP2.out b (Nat.le_trans hwle hb)) _ rfl rfl rfl) hb1 ht1)
                        have hY12 := ht1.blk hY10.out hgr4
                        clear hb1 ht1
                        refine ⟨hY12, fun hHeld => ?_⟩
                        try simp only [Act.put, List.getElem_toArray, List.getElem_cons_succ, List.getElem_cons_zero, List.setIfInBounds_toArray, List.set_cons_zero, List.set_cons_succ]
                        refine wpAnyH_done (by kernel_rfl) ?_ _
                        refine NoPanic.normal ?_
                        try simp only [Act.put, List.getElem_toArray, List.getElem_cons_succ, List.getElem_cons_zero, List.setIfInBounds_toArray, List.set_cons_zero, List.set_cons_succ]
                        clear hHeld hY12 H11 HL11 hY10
                        have g1 := H12.out.hc 1 (.int .i64 now) (by rw [HHD.out]; rfl)
                        have e := Lib.hid (show (decide (r.led.length = 0) || r.lasting) = la by rw [HLA.out, HBZ.out, HNL.out])
                        have hrh := HRH.out (some ⟨g10, 0, none⟩) c10
                        rw [e.out, show a.status = st by rw [HAA.out], ← HB1.out, ← HB2.out] at hrh
                        have HR2 := Lib.hid hrh
                        clear hrh e HRH
                        go_wp2_with ((with_reducible refine atS 268 266 ?_); refine wpList_storeC rfl 3 (.tmp 268) (.tmp 266) rfl gr (o + 3) (.int .i64 (now + 1)) (by rfl) (by rfl) rfl info3 64 _ H12.out.src (H12.out.lts (k := 3) (by decide)) ?_; intro X13 hb1 ht1; have H13 := Lib.hid (H12.out.put 3 (.int .i64 (now + 1)) (by decide) { r with out := false, lasting := (la && (b1 || b2)), ledA := some ⟨g10, 0, none⟩, ledC := c10, led := r.led ++ [T], due := now + 1 } rfl (fun h => h.like rfl rfl rfl) hb1 ht1); clear hb1 ht1)
                        go_ret2
                        exact RHQ.mk (some ⟨g10, 0, none⟩) c10 HR2.out H13.out
                      · rw [if_pos (by kernel_rfl)]
                        refine wp_ran2 (run_ld38 (v := (.slice r.ledA r.led.length r.ledC)) (.tmp 252) rfl (by rfl) (show wc.drew.cell? _ = _ from hsL.out)) (hKX.out _ _ (by exact (blk_drew HY10.out)) (fun hHeld => ?_))
                        clear hKX KX
                        try simp only [Act.put, List.getElem_toArray, List.getElem_cons_succ, List.getElem_cons_zero, List.setIfInBounds_toArray, List.set_cons_zero, List.set_cons_succ]
                        refine wpAnyH_ready (rs := [1]) (by kernel_rfl) (by simp) ?_
                        refine AllReadyH.cons rfl (fun KX hKX => ?_) AllReadyH.nil
                        rw [if_pos (by kernel_rfl)]
                        refine wp_ran2 (run_bs38n rfl) (hKX.out _ _ (by exact blk_alloc (blk_drew HY10.out) _) (fun hHeld => ?_))
                        clear hKX KX
                        try simp only [Act.put, List.getElem_toArray, List.getElem_cons_succ, List.getElem_cons_zero, List.setIfInBounds_toArray, List.set_cons_zero, List.set_cons_succ]
                        refine wpAnyH_ready (rs := [6]) (by kernel_rfl) (by simp) ?_
                        refine AllReadyH.cons rfl (fun KX hKX => ?_) AllReadyH.nil
                        refine step_copyS rfl (.tmp 249) (.tmp 253) rfl wc.heap.size (by simp) wc.heap.size (by rfl) (SOwn.empty wc.drew wc.heap.size (Nat.le_refl _)) wc.heap.size r.ledA r.led r.ledC (by rfl) ((show Rd wc.drew wc.heap.size 1 r.ledA r.led.length (strs r.led) from hrd.out).keep (below_one wc.drew _)) (by omega) ?_
                        intro A6 c6 w6 ho6 hb6
                        have hB6 : Below wc.heap.size wc w6 := ((Below.refl _ wc).drew).trans ((below_one wc.drew _).trans hb6)
                        have hY6 := blk_base HY10.out hB6 hwc
                        refine hKX.out _ _ (by exact hY6) (fun hHeld => ?_)
                        clear hKX KX
                        try simp only [Act.put, List.getElem_toArray, List.getElem_cons_succ, List.getElem_cons_zero, List.setIfInBounds_toArray, List.set_cons_zero, List.set_cons_succ]
                        have HO6 := Lib.hid ho6
                        have HB6 := Lib.hid hB6
                        clear ho6 hb6 hB6 hY6
                        refine wpAnyH_ready (rs := [8]) (by kernel_rfl) (by simp) ?_
                        refine AllReadyH.cons rfl (fun KX hKX => ?_) AllReadyH.nil
                        rw [if_pos (by kernel_rfl)]
                        refine wp_callK (run_call71 (l := bareF Y) (.tmp 255) rfl (by rfl)) (hpr.out w6) ?_
                        rintro e w8' ⟨rfl, hb8⟩
                        refine ⟨_, rfl, ?_⟩
                        have hB8 : Below wc.heap.size wc w8' := HB6.out.trans (hb8.mono HB6.out.size)
                        have ho8 : SOwn w8' wc.heap.size (.slice A6 r.led.length c6) r.led := HO6.out.keep hb8
                        refine hKX.out _ _ (by exact blk_base HY10.out hB8 hwc) (fun hHeld => ?_)
                        clear hKX KX
                        try simp only [Act.put, List.getElem_toArray, List.getElem_cons_succ, List.getElem_cons_zero, List.setIfInBounds_toArray, List.set_cons_zero, List.set_cons_succ]
                        have HO8 := Lib.hid ho8
                        have HB8 := Lib.hid hB8
                        clear ho8 hB8 hb8 HO6 HB6
                        refine wpAnyH_ready (rs := [9]) (by kernel_rfl) (by simp) ?_
                        refine AllReadyH.cons rfl (fun KX hKX => ?_) AllReadyH.nil
                        rw [if_pos (by kernel_rfl)]
                        refine wp_ran2 (run_bs38o (T := T) (.tmp 256) rfl (by rfl)) (hKX.out _ _ (by exact blk_base HY10.out (HB8.out.alloc HB8.out.size _) hwc) (fun hHeld => ?_))
                        clear hKX KX
                        try simp only [Act.put, List.getElem_toArray, List.getElem_cons_succ, List.getElem_cons_zero, List.setIfInBounds_toArray, List.set_cons_zero, List.set_cons_succ]
                        refine wpAnyH_ready (rs := [10]) (by kernel_rfl) (by simp) ?_
                        refine AllReadyH.cons rfl (fun KX hKX => ?_) AllReadyH.nil
                        refine step_push rfl (.tmp 254) (.tmp 257) 38 rfl wc.heap.size 9 _ 1 16 Tryz.underlying38 infoS rfl (by decide) (.slice A6 r.led.length c6) r.led.length (strs r.led) (by rfl) (World.ownsRow.alloc HO8.out _) w8'.heap.size [.string (bs T)] 1 (by decide) (by rfl) (blk_new w8' 9 #[.string (bs T)]) rfl rfl (by omega) (by omega) (by have := HB8.out.size; simp; omega) ?_
                        intro g10 c10 w10 ho10 _ hb10 _
                        have hB10 : Below wc.heap.size wc w10 := (HB8.out.alloc HB8.out.size _).trans hb10
                        refine hKX.out _ _ (by exact blk_base HY10.out hB10 hwc) (fun hHeld => ?_)
                        clear hKX KX
                        try simp only [Act.put, List.getElem_toArray, List.getElem_cons_succ, List.getElem_cons_zero, List.setIfInBounds_toArray, List.set_cons_zero, List.set_cons_succ]
                        refine wpAnyH_take (i := 11) (v := ?v67) rfl (by kernel_rfl) (by kernel_rfl) (by kernel_rfl) (fun _ _ _ h => h) (Or.inl ⟨by kernel_rfl, ?y67⟩) (by assumption) ?t67
                        case y67 => (intro w hSw; (try dsimp only at hSw); go_simp; try with_reducible rfl)
                        try simp only [Act.put, List.getElem_toArray, List.getElem_cons_succ, List.getElem_cons_zero, List.setIfInBounds_toArray, List.set_cons_zero, List.set_cons_succ]
                        refine wpAnyH_take (i := 12) (v := ?v68) rfl (by kernel_rfl) (by kernel_rfl) (by kernel_rfl) (fun _ _ _ h => h) (Or.inl ⟨by kernel_rfl, ?y68⟩) (by assumption) ?t68
                        case y68 => (intro w hSw; (try dsimp only at hSw); go_simp; try with_reducible rfl)
                        try simp only [Act.put, List.getElem_toArray, List.getElem_cons_succ, List.getElem_cons_zero, List.setIfInBounds_toArray, List.set_cons_zero, List.set_cons_succ]
                        have H11 := Lib.hid (H10.out.call hB10)
                        have ho11 : SOwn w10 wc.heap.size (.slice (some ⟨g10, 0, none⟩) (r.led ++ [T]).length c10) (r.led ++ [T]) := by
                          unfold SOwn
                          rw [List.length_append, show strs (r.led ++ [T]) = strs r.led ++ [.string (bs T)] by simp [strs]]
                          exact ho10
                        have HL11 := Lib.hid (fun (P' : Nat → Prop) (hP' : ∀ b, wc.heap.size ≤ b → P' b) (r' : RSrc) (h1 : r'.led = r.led ++ [T]) (h2 : r'.ledA = some ⟨g10, 0, none⟩) (h3 : r'.ledC = c10) => LedRd.own (P := P') ho11 hP' h1 h2 h3)
                        have hY10 := Lib.hid (blk_base HY10.out hB10 hwc)
                        have hwle : w.heap.size ≤ wc.heap.size := H10.out.only.size
                        clear ho10 hb10 hB10 ho11 HO8 HB8
                        refine wpAnyH_storeC 13 rfl (by kernel_rfl) (by kernel_rfl) 38 (.tmp 260) (.tmp 258) rfl gr (o + 1) (.slice (some ⟨g10, 0, none⟩) (r.led.length + 1) c10) (by rfl) (by rfl) rfl info38 64 _ H11.out.src (H11.out.lts (by decide)) ?_
                        intro X12 hb1 ht1
                        have H12 := Lib.hid (H11.out.put 1 (.slice (some ⟨g10, 0, none⟩) (r.led.length + 1) c10) (by decide) { r with out := false, lasting := (la && (b1 || b2)), ledA := some ⟨g10, 0, none⟩, ledC := c10, led := r.led ++ [T] } (by unfold rcs; rw [List.length_append]; rfl) (fun _ => HL11.out P (fun b hb => HP2.out b (Nat.le_trans hwle hb)) _ rfl rfl rfl) hb1 ht1)
                        have hY12 := ht1.blk hY10.out hgr4
                        clear hb1 ht1
                        refine ⟨hY12, fun hHeld => ?_⟩
                        try simp only [Act.put, List.getElem_toArray, List.getElem_cons_succ, List.getElem_cons_zero, List.setIfInBounds_toArray, List.set_cons_zero, List.set_cons_succ]
                        refine wpAnyH_done (by kernel_rfl) ?_ _
                        refine NoPanic.normal ?_
                        try simp only [Act.put, List.getElem_toArray, List.getElem_cons_succ, List.getElem_cons_zero, List.setIfInBounds_toArray, List.set_cons_zero, List.set_cons_succ]
                        clear hHeld hY12 H11 HL11 hY10
                        have g1 := H12.out.hc 1 (.int .i64 now) (by rw [HHD.out]; rfl)
                        have e := Lib.hid (show (decide (r.led.length = 0) || r.lasting) = la by rw [HLA.out, HBZ.out, HNL.out])
                        have hrh := HRH.out (some ⟨g10, 0, none⟩) c10
                        rw [e.out, show a.status = st by rw [HAA.out], ← HB1.out, ← HB2.out] at hrh
                        have HR2 := Lib.hid hrh
                        clear hrh e HRH
                        go_wp2_with ((with_reducible refine atS 268 266 ?_); refine wpList_storeC rfl 3 (.tmp 268) (.tmp 266) rfl gr (o + 3) (.int .i64 (now + 1)) (by rfl) (by rfl) rfl info3 64 _ H12.out.src (H12.out.lts (k := 3) (by decide)) ?_; intro X13 hb1 ht1; have H13 := Lib.hid (H12.out.put 3 (.int .i64 (now + 1)) (by decide) { r with out := false, lasting := (la && (b1 || b2)), ledA := some ⟨g10, 0, none⟩, ledC := c10, led := r.led ++ [T], due := now + 1 } rfl (fun h => h.like rfl rfl rfl) hb1 ht1); clear hb1 ht1)
                        go_ret2
                        exact RHQ.mk (some ⟨g10, 0, none⟩) c10 HR2.out H13.out
            · rw [if_neg hl2] at hLD
              have u1 : decide ((T.length : Int) ≤ 2048) = false := decide_eq_false (by omega)
              have u2 : decide (T.length ≤ 2048) = false := decide_eq_false hl2
              have hrh := fun A' c' => rh_none (per := per) (now := now) (r := r) (a := a) (n := lb.length) (A' := A') (c' := c') H200.out H304.out (by rw [HAA.out]; exact .inr hLD)
              clear hLD hl2 H200 H304
              go_upto_region 35 with (first | ((with_reducible refine atD 221 ?_); refine wpList_loadW (by rfl) (.tmp 14) rfl w4.heap.size (by rfl) (bareF Y) HY7.out ?_) | (go_at_call 71; refine (hpr.out _).mono ?_; rintro e w8 ⟨rfl, hb1⟩; have H8 := Lib.hid (H7.out.call hb1); clear hb1))
              clear u1 u2 hpr hpz
              obtain ⟨f, hf1, hf2⟩ : ∃ f : Nat, ((f : Nat) : Int) = min (r.fails + 1) 6 ∧ f ≤ 6 := ⟨(min (r.fails + 1) 6).toNat, by omega, by omega⟩
              rw [← hf1, Int.toNat_natCast] at hrh
              have HF1 := Lib.hid hf1
              have HRH := Lib.hid hrh
              have v1 : IntKind.i64.wrap (r.fails + 1) = r.fails + 1 := IntWalk.i64_in _ (by omega)
              clear hf1 hrh
              go_upto_region 37 with (first | ((with_reducible refine atC 271 ?_); refine wpList_storeC rfl 38 (.tmp 271) (.const (.slice none 0 0)) rfl gr (o + 1) (.slice none 0 0) (by rfl) (by rfl) rfl info38 64 _ H8.out.src (H8.out.lts (k := 1) (by decide)) ?_; intro XA hb1 ht1; have HA := Lib.hid (H8.out.put 1 (.slice none 0 0) (by decide) { r with out := false, ledA := none, ledC := 0, led := [] } rfl (fun _ => LedRd.nil rfl (Nat.zero_le _)) hb1 ht1); have k4 := HA.out.sc 4 (.int .i64 r.fails) rfl; clear hb1 ht1) | ((with_reducible refine atS 280 278 ?_); refine wpList_storeC rfl 3 (.tmp 280) (.tmp 278) rfl gr (o + 4) (.int .i64 ((f : Nat) : Int)) (by rfl) (by rw [HF1.out]; rfl) rfl info3 64 _ HA.out.src (HA.out.lts (k := 4) (by decide)) ?_; intro XB hb1 ht1; have HB := Lib.hid (HA.out.put 4 (.int .i64 ((f : Nat) : Int)) (by decide) { r with out := false, ledA := none, ledC := 0, led := [], fails := ((f : Nat) : Int) } rfl (fun h => h.like rfl rfl rfl) hb1 ht1); clear hb1 ht1))
              try simp only [Act.put, List.getElem_toArray, List.getElem_cons_succ, List.getElem_cons_zero, List.setIfInBounds_toArray, List.set_cons_zero, List.set_cons_succ]
              clear HA v1 H8
              have g0 := HB.out.hc 0 (.int .i64 per) (by rw [HHD.out]; rfl)
              go_wp2_with fail
              go_loopw [16, 17] (fun wv kv wx => ∃ (k : Nat) (Wk : Int), wv = .int .i64 Wk ∧ kv = .int .i64 (k : Int) ∧ k ≤ f ∧ (1 ≤ Wk ∧ Wk ≤ 67108864) ∧ Hid (Wk = per * 2 ^ k) ∧ Hid (RHS w wx P g gr o pre post hd { r with out := false, ledA := none, ledC := 0, led := [], fails := ((f : Nat) : Int) } a)) (fun _ kv _ => f - (intOf kv).toNat)
              case atStart => exact ⟨0, per, rfl, rfl, Nat.zero_le _, ⟨hper.1, by omega⟩, Lib.hid (by simp), HB⟩
              case round =>
                obtain ⟨k, Wk, rfl, rfl, hk, hW, HW, HB2⟩ := hrel
                clear HB g0
                have k4 := HB2.out.sc 4 (.int .i64 ((f : Nat) : Int)) rfl
                by_cases hkf : k < f
                · have tk : decide ((k : Int) < (f : Int)) = true := decide_eq_true (by omega)
                  have tk2 : decide (k < f) = true := decide_eq_true hkf
                  have hp := pow_bound per ((k + 1 : Nat) : Int) hper (by omega)
                  rw [Int.toNat_natCast] at hp
                  have e2 : 2 * Wk = per * 2 ^ (k + 1) := by rw [HW.out, Int.pow_succ]; rw [Int.mul_comm (2 ^ k) 2, ← Int.mul_assoc, ← Int.mul_assoc, Int.mul_comm per 2]
                  rw [← e2] at hp
                  have HW2 := Lib.hid e2
                  have v2 : IntKind.i64.wrap (2 * Wk) = 2 * Wk := IntWalk.i64_in _ (by omega)
                  clear e2 HW
                  go_wp2_with fail
                  exact ⟨⟨k + 1, 2 * Wk, rfl, by go_num, by omega, hp, HW2, HB2⟩, by simp [intOf]; omega⟩
                · have tk : decide ((k : Int) < (f : Int)) = false := decide_eq_false (by omega)
                  have tk2 : decide (k < f) = false := decide_eq_false hkf
                  have hkf2 : k = f := by omega
                  have g1 := HB2.out.hc 1 (.int .i64 now) (by rw [HHD.out]; rfl)
                  have v3 : IntKind.i64.wrap (now + Wk) = now + Wk := IntWalk.i64_in _ (by omega)
                  have e3 := HRH.out none 0
                  rw [← hkf2, ← HW.out, hkf2] at e3
                  have HR2 := Lib.hid e3
                  clear e3 HRH HW hkf2
                  go_wp2_with ((with_reducible refine atS 303 301 ?_); refine wpList_storeC rfl 3 (.tmp 303) (.tmp 301) rfl gr (o + 3) (.int .i64 (now + Wk)) (by rfl) (by rfl) rfl info3 64 _ HB2.out.src (HB2.out.lts (k := 3) (by decide)) ?_; intro XC hb1 ht1; have HC := Lib.hid (HB2.out.put 3 (.int .i64 (now + Wk)) (by decide) { r with out := false, ledA := none, ledC := 0, led := [], fails := ((f : Nat) : Int), due := now + Wk } rfl (fun h => h.like rfl rfl rfl) hb1 ht1); clear hb1 ht1)
                  go_ret2
                  exact RHQ.mk none 0 HR2.out HC.out
end Go.Proofs.YtcpkkaimingnlaaGreatDoor
