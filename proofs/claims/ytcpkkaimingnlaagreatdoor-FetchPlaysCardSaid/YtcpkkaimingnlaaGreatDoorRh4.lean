/-
  The document's Hear: an answer that was lost.
-/
import Derived.Test.YtcpkkaimingnlaaGreatDoorRh2
set_option linter.unusedVariables false
set_option linter.unusedSimpArgs false
namespace Go.Proofs.YtcpkkaimingnlaaGreatDoor
open Go.RowKit

set_option maxHeartbeats 16000000 in
set_option maxRecDepth 100000 in
theorem rhear_lost_301 (per now : Int) (r : RSrc) (lost : Bool) (st : Int) (loc et mo lb : Bs) (Ab : Option Addr) (cb : Nat) (P : Nat → Prop) (g gr i n cap : Nat) (pre post : List Value) (w : World)
    (hi : i < n) (hcap : n ≤ cap ∧ cap ≤ 9223372036854775807) (hsrc : Blk w gr 64 (pre ++ rcs r ++ post)) (hhead : Blk w g 62 [.int .i64 per, .int .i64 now, .slice (some ⟨gr, 0, none⟩) n cap]) (hled : LedRd w P r) (hne : g ≠ gr) (hP : ∀ b, P b → b ≠ gr) (hP2 : ∀ b, w.heap.size ≤ b → P b) (hpre : pre.length = i * 8)
    (hout : r.out = true) (hok : SOk (toS r)) (hper : 1 ≤ per ∧ per ≤ 1048576) (hnow : 0 ≤ now ∧ now ≤ 1000000000) (hll : lb.length ≤ 1000000000) (hloc : loc.length ≤ 1000000) (het : et.length ≤ 1000000) (hmo : mo.length ≤ 1000000) :
    Calls Tryz.prog 33 #[ptr g, .int .i64 ((i : Nat) : Int), .agg (acs ⟨true, 301, loc, et, mo, .slice Ab lb.length cb⟩).toArray] w (RHQ per now r ⟨true, 301, loc, et, mo, .slice Ab lb.length cb⟩ lb.length P g gr (i * 8) pre post [.int .i64 per, .int .i64 now, .slice (some ⟨gr, 0, none⟩) n cap] w) := by
  obtain ⟨a, ha⟩ : ∃ a : Ans, a = ⟨true, 301, loc, et, mo, .slice Ab lb.length cb⟩ := ⟨_, rfl⟩
  obtain ⟨hd, hhd⟩ : ∃ hd : List Value, hd = [.int .i64 per, .int .i64 now, .slice (some ⟨gr, 0, none⟩) n cap] := ⟨_, rfl⟩
  obtain ⟨o, ho⟩ : ∃ o, o = i * 8 := ⟨_, rfl⟩
  rw [← ho] at hpre
  rw [← hhd] at hhead
  rw [← ha, ← hhd, ← ho]
  have HHD := Lib.hid hhd
  have HAA := Lib.hid ha
  have H0 := Lib.hid (RHS.start (a := a) hsrc hhead hled hne hP hpre)
  have HP2 := Lib.hid hP2
  have HOK := Lib.hid hok
  have hlen5 : r.led.length ≤ 5 := hok.hops
  have hf6 : 0 ≤ r.fails ∧ r.fails ≤ 6 := hok.fails
  have t0 : decide ((i : Int) < 0) = false := decide_eq_false (by omega)
  have t1 : decide ((i : Int) ≥ (n : Int)) = false := decide_eq_false (by omega)
  have t2 : decide ((n : Int) ≤ (i : Int)) = false := decide_eq_false (by omega)
  have t3 : decide (n ≤ i) = false := decide_eq_false (by omega)
  have s7 := H0.out.sc 7 (.bool true) (by rw [← hout]; rfl)
  have g2 := H0.out.hc 2 (.slice (some ⟨gr, 0, none⟩) n cap) (by rw [hhd]; rfl)
  clear hsrc hhead hled hne hP hP2 hpre hok ha hhd hout
  rw [ho] at s7
  have HO2 := Lib.hid ho
  clear ho
  unfold ptr
  go_enter Tryz.func33, Tryz.ntmps33
  go_upto_region 4 with fail
  clear t0 t1 t2 t3 s7 g2
  rw [← HO2.out]
  clear HO2
  obtain ⟨nl, hnl⟩ : ∃ nl, nl = r.led.length := ⟨_, rfl⟩
  rw [← hnl] at hlen5
  have HNL := Lib.hid hnl
  clear hnl hi hcap
  go_upto_region 6 with ((with_reducible refine atC 48 ?_); refine wpList_storeC rfl 4 (.tmp 48) (.const (.bool false)) rfl gr (o + 7) (.bool false) (by rfl) (by rfl) rfl info4 64 _ H0.out.src (H0.out.lts (by decide)) ?_; intro X1 hb1 ht1; have H1 := Lib.hid (H0.out.put 7 (.bool false) (by decide) { r with out := false } rfl (fun h => h.like rfl rfl rfl) hb1 ht1); have s1 := H1.out.sc 1 (.slice r.ledA nl r.ledC) (by rw [HNL.out]; rfl); clear hb1 ht1)
  clear H0 s1
  have a0 := H1.out.ac 0 (.bool true) (by rw [HAA.out]; rfl)
  have a1 := H1.out.ac 1 (.int .i64 301) (by rw [HAA.out]; rfl)
  have a5 := H1.out.ac 5 (.slice Ab lb.length cb) (by rw [HAA.out]; rfl)
  have hrh := fun A' c' => rh_none (per := per) (now := now) (r := r) (a := a) (n := lb.length) (A' := A') (c' := c') (by rw [HAA.out]; exact (fun h => absurd (show true = false from h.1) (by decide))) (by rw [HAA.out]; exact (fun h => absurd (show true = false from h.1) (by decide))) (by rw [HAA.out]; exact .inl rfl)
  obtain ⟨f, hf1, hf2⟩ : ∃ f : Nat, ((f : Nat) : Int) = min (r.fails + 1) 6 ∧ f ≤ 6 := ⟨(min (r.fails + 1) 6).toNat, by omega, by omega⟩
  rw [← hf1, Int.toNat_natCast] at hrh
  have HF1 := Lib.hid hf1
  have HRH := Lib.hid hrh
  have v1 : IntKind.i64.wrap (r.fails + 1) = r.fails + 1 := IntWalk.i64_in _ (by omega)
  clear hf1 hrh
  go_upto_region 37 with (first | ((with_reducible refine atC 271 ?_); refine wpList_storeC rfl 38 (.tmp 271) (.const (.slice none 0 0)) rfl gr (o + 1) (.slice none 0 0) (by rfl) (by rfl) rfl info38 64 _ H1.out.src (H1.out.lts (k := 1) (by decide)) ?_; intro XA hb1 ht1; have HA := Lib.hid (H1.out.put 1 (.slice none 0 0) (by decide) { r with out := false, ledA := none, ledC := 0, led := [] } rfl (fun _ => LedRd.nil rfl (Nat.zero_le _)) hb1 ht1); have k4 := HA.out.sc 4 (.int .i64 r.fails) rfl; clear hb1 ht1) | ((with_reducible refine atS 280 278 ?_); refine wpList_storeC rfl 3 (.tmp 280) (.tmp 278) rfl gr (o + 4) (.int .i64 ((f : Nat) : Int)) (by rfl) (by rw [HF1.out]; rfl) rfl info3 64 _ HA.out.src (HA.out.lts (k := 4) (by decide)) ?_; intro XB hb1 ht1; have HB := Lib.hid (HA.out.put 4 (.int .i64 ((f : Nat) : Int)) (by decide) { r with out := false, ledA := none, ledC := 0, led := [], fails := ((f : Nat) : Int) } rfl (fun h => h.like rfl rfl rfl) hb1 ht1); clear hb1 ht1))
  try simp only [Act.put, List.getElem_toArray, List.getElem_cons_succ, List.getElem_cons_zero, List.setIfInBounds_toArray, List.set_cons_zero, List.set_cons_succ]
  clear HA v1 H1
  have g0 := HB.out.hc 0 (.int .i64 per) (by rw [HHD.out]; rfl)
  go_wp2_with fail
  go_loopw [16, 17] (fun wv kv wx => ∃ (k : Nat) (Wk : Int), wv = .int .i64 Wk ∧ kv = .int .i64 (k : Int) ∧ k ≤ f ∧ (1 ≤ Wk ∧ Wk ≤ 67108864) ∧ Hid (Wk = per * 2 ^ k) ∧ Hid (RHS w wx P g gr o pre post hd { r with out := false, ledA := none, ledC := 0, led := [], fails := ((f : Nat) : Int) } a)) (fun _ kv _ => f - (intOf kv).toNat)
  case atStart => exact ⟨0, per, rfl, rfl, Nat.zero_le _, ⟨hper.1, by omega⟩, Lib.hid (by simp), HB⟩
  case round =>
    obtain ⟨k, Wk, rfl, rfl, hk, hW, HW, HB2⟩ := hrel
    clear HB g0
    have k4 := HB2.out.sc 4 (.int .i64 ((f : Nat) : Int)) rfl
    by_cases hkf : k < f
    · have tk : decide ((k : Int) < (f : Int)) = true := decide_eq_true (by omega)
      have tk2 : decide (k < f) = true := decide_eq_true hkf
      have hp := pow_bound per ((k + 1 : Nat) : Int) hper (by omega)
      rw [Int.toNat_natCast] at hp
      have e2 : 2 * Wk = per * 2 ^ (k + 1) := by rw [HW.out, Int.pow_succ]; rw [Int.mul_comm (2 ^ k) 2, ← Int.mul_assoc, ← Int.mul_assoc, Int.mul_comm per 2]
      rw [← e2] at hp
      have HW2 := Lib.hid e2
      have v2 : IntKind.i64.wrap (2 * Wk) = 2 * Wk := IntWalk.i64_in _ (by omega)
      clear e2 HW
      go_wp2_with fail
      exact ⟨⟨k + 1, 2 * Wk, rfl, by go_num, by omega, hp, HW2, HB2⟩, by simp [intOf]; omega⟩
    · have tk : decide ((k : Int) < (f : Int)) = false := decide_eq_false (by omega)
      have tk2 : decide (k < f) = false := decide_eq_false hkf
      have hkf2 : k = f := by omega
      have g1 := HB2.out.hc 1 (.int .i64 now) (by rw [HHD.out]; rfl)
      have v3 : IntKind.i64.wrap (now + Wk) = now + Wk := IntWalk.i64_in _ (by omega)
      have e3 := HRH.out none 0
      rw [← hkf2, ← HW.out, hkf2] at e3
      have HR2 := Lib.hid e3
      clear e3 HRH HW hkf2
      go_wp2_with ((with_reducible refine atS 303 301 ?_); refine wpList_storeC rfl 3 (.tmp 303) (.tmp 301) rfl gr (o + 3) (.int .i64 (now + Wk)) (by rfl) (by rfl) rfl info3 64 _ HB2.out.src (HB2.out.lts (k := 3) (by decide)) ?_; intro XC hb1 ht1; have HC := Lib.hid (HB2.out.put 3 (.int .i64 (now + Wk)) (by decide) { r with out := false, ledA := none, ledC := 0, led := [], fails := ((f : Nat) : Int), due := now + Wk } rfl (fun h => h.like rfl rfl rfl) hb1 ht1); clear hb1 ht1)
      go_ret2
      exact RHQ.mk none 0 HR2.out HC.out
set_option maxHeartbeats 16000000 in
set_option maxRecDepth 100000 in
theorem rhear_lost_302 (per now : Int) (r : RSrc) (lost : Bool) (st : Int) (loc et mo lb : Bs) (Ab : Option Addr) (cb : Nat) (P : Nat → Prop) (g gr i n cap : Nat) (pre post : List Value) (w : World)
    (hi : i < n) (hcap : n ≤ cap ∧ cap ≤ 9223372036854775807) (hsrc : Blk w gr 64 (pre ++ rcs r ++ post)) (hhead : Blk w g 62 [.int .i64 per, .int .i64 now, .slice (some ⟨gr, 0, none⟩) n cap]) (hled : LedRd w P r) (hne : g ≠ gr) (hP : ∀ b, P b → b ≠ gr) (hP2 : ∀ b, w.heap.size ≤ b → P b) (hpre : pre.length = i * 8)
    (hout : r.out = true) (hok : SOk (toS r)) (hper : 1 ≤ per ∧ per ≤ 1048576) (hnow : 0 ≤ now ∧ now ≤ 1000000000) (hll : lb.length ≤ 1000000000) (hloc : loc.length ≤ 1000000) (het : et.length ≤ 1000000) (hmo : mo.length ≤ 1000000) :
    Calls Tryz.prog 33 #[ptr g, .int .i64 ((i : Nat) : Int), .agg (acs ⟨true, 302, loc, et, mo, .slice Ab lb.length cb⟩).toArray] w (RHQ per now r ⟨true, 302, loc, et, mo, .slice Ab lb.length cb⟩ lb.length P g gr (i * 8) pre post [.int .i64 per, .int .i64 now, .slice (some ⟨gr, 0, none⟩) n cap] w) := by
  obtain ⟨a, ha⟩ : ∃ a : Ans, a = ⟨true, 302, loc, et, mo, .slice Ab lb.length cb⟩ := ⟨_, rfl⟩
  obtain ⟨hd, hhd⟩ : ∃ hd : List Value, hd = [.int .i64 per, .int .i64 now, .slice (some ⟨gr, 0, none⟩) n cap] := ⟨_, rfl⟩
  obtain ⟨o, ho⟩ : ∃ o, o = i * 8 := ⟨_, rfl⟩
  rw [← ho] at hpre
  rw [← hhd] at hhead
  rw [← ha, ← hhd, ← ho]
  have HHD := Lib.hid hhd
  have HAA := Lib.hid ha
  have H0 := Lib.hid (RHS.start (a := a) hsrc hhead hled hne hP hpre)
  have HP2 := Lib.hid hP2
  have HOK := Lib.hid hok
  have hlen5 : r.led.length ≤ 5 := hok.hops
  have hf6 : 0 ≤ r.fails ∧ r.fails ≤ 6 := hok.fails
  have t0 : decide ((i : Int) < 0) = false := decide_eq_false (by omega)
  have t1 : decide ((i : Int) ≥ (n : Int)) = false := decide_eq_false (by omega)
  have t2 : decide ((n : Int) ≤ (i : Int)) = false := decide_eq_false (by omega)
  have t3 : decide (n ≤ i) = false := decide_eq_false (by omega)
  have s7 := H0.out.sc 7 (.bool true) (by rw [← hout]; rfl)
  have g2 := H0.out.hc 2 (.slice (some ⟨gr, 0, none⟩) n cap) (by rw [hhd]; rfl)
  clear hsrc hhead hled hne hP hP2 hpre hok ha hhd hout
  rw [ho] at s7
  have HO2 := Lib.hid ho
  clear ho
  unfold ptr
  go_enter Tryz.func33, Tryz.ntmps33
  go_upto_region 4 with fail
  clear t0 t1 t2 t3 s7 g2
  rw [← HO2.out]
  clear HO2
  obtain ⟨nl, hnl⟩ : ∃ nl, nl = r.led.length := ⟨_, rfl⟩
  rw [← hnl] at hlen5
  have HNL := Lib.hid hnl
  clear hnl hi hcap
  go_upto_region 6 with ((with_reducible refine atC 48 ?_); refine wpList_storeC rfl 4 (.tmp 48) (.const (.bool false)) rfl gr (o + 7) (.bool false) (by rfl) (by rfl) rfl info4 64 _ H0.out.src (H0.out.lts (by decide)) ?_; intro X1 hb1 ht1; have H1 := Lib.hid (H0.out.put 7 (.bool false) (by decide) { r with out := false } rfl (fun h => h.like rfl rfl rfl) hb1 ht1); have s1 := H1.out.sc 1 (.slice r.ledA nl r.ledC) (by rw [HNL.out]; rfl); clear hb1 ht1)
  clear H0 s1
  have a0 := H1.out.ac 0 (.bool true) (by rw [HAA.out]; rfl)
  have a1 := H1.out.ac 1 (.int .i64 302) (by rw [HAA.out]; rfl)
  have a5 := H1.out.ac 5 (.slice Ab lb.length cb) (by rw [HAA.out]; rfl)
  have hrh := fun A' c' => rh_none (per := per) (now := now) (r := r) (a := a) (n := lb.length) (A' := A') (c' := c') (by rw [HAA.out]; exact (fun h => absurd (show true = false from h.1) (by decide))) (by rw [HAA.out]; exact (fun h => absurd (show true = false from h.1) (by decide))) (by rw [HAA.out]; exact .inl rfl)
  obtain ⟨f, hf1, hf2⟩ : ∃ f : Nat, ((f : Nat) : Int) = min (r.fails + 1) 6 ∧ f ≤ 6 := ⟨(min (r.fails + 1) 6).toNat, by omega, by omega⟩
  rw [← hf1, Int.toNat_natCast] at hrh
  have HF1 := Lib.hid hf1
  have HRH := Lib.hid hrh
  have v1 : IntKind.i64.wrap (r.fails + 1) = r.fails + 1 := IntWalk.i64_in _ (by omega)
  clear hf1 hrh
  go_upto_region 37 with (first | ((with_reducible refine atC 271 ?_); refine wpList_storeC rfl 38 (.tmp 271) (.const (.slice none 0 0)) rfl gr (o + 1) (.slice none 0 0) (by rfl) (by rfl) rfl info38 64 _ H1.out.src (H1.out.lts (k := 1) (by decide)) ?_; intro XA hb1 ht1; have HA := Lib.hid (H1.out.put 1 (.slice none 0 0) (by decide) { r with out := false, ledA := none, ledC := 0, led := [] } rfl (fun _ => LedRd.nil rfl (Nat.zero_le _)) hb1 ht1); have k4 := HA.out.sc 4 (.int .i64 r.fails) rfl; clear hb1 ht1) | ((with_reducible refine atS 280 278 ?_); refine wpList_storeC rfl 3 (.tmp 280) (.tmp 278) rfl gr (o + 4) (.int .i64 ((f : Nat) : Int)) (by rfl) (by rw [HF1.out]; rfl) rfl info3 64 _ HA.out.src (HA.out.lts (k := 4) (by decide)) ?_; intro XB hb1 ht1; have HB := Lib.hid (HA.out.put 4 (.int .i64 ((f : Nat) : Int)) (by decide) { r with out := false, ledA := none, ledC := 0, led := [], fails := ((f : Nat) : Int) } rfl (fun h => h.like rfl rfl rfl) hb1 ht1); clear hb1 ht1))
  try simp only [Act.put, List.getElem_toArray, List.getElem_cons_succ, List.getElem_cons_zero, List.setIfInBounds_toArray, List.set_cons_zero, List.set_cons_succ]
  clear HA v1 H1
  have g0 := HB.out.hc 0 (.int .i64 per) (by rw [HHD.out]; rfl)
  go_wp2_with fail
  go_loopw [16, 17] (fun wv kv wx => ∃ (k : Nat) (Wk : Int), wv = .int .i64 Wk ∧ kv = .int .i64 (k : Int) ∧ k ≤ f ∧ (1 ≤ Wk ∧ Wk ≤ 67108864) ∧ Hid (Wk = per * 2 ^ k) ∧ Hid (RHS w wx P g gr o pre post hd { r with out := false, ledA := none, ledC := 0, led := [], fails := ((f : Nat) : Int) } a)) (fun _ kv _ => f - (intOf kv).toNat)
  case atStart => exact ⟨0, per, rfl, rfl, Nat.zero_le _, ⟨hper.1, by omega⟩, Lib.hid (by simp), HB⟩
  case round =>
    obtain ⟨k, Wk, rfl, rfl, hk, hW, HW, HB2⟩ := hrel
    clear HB g0
    have k4 := HB2.out.sc 4 (.int .i64 ((f : Nat) : Int)) rfl
    by_cases hkf : k < f
    · have tk : decide ((k : Int) < (f : Int)) = true := decide_eq_true (by omega)
      have tk2 : decide (k < f) = true := decide_eq_true hkf
      have hp := pow_bound per ((k + 1 : Nat) : Int) hper (by omega)
      rw [Int.toNat_natCast] at hp
      have e2 : 2 * Wk = per * 2 ^ (k + 1) := by rw [HW.out, Int.pow_succ]; rw [Int.mul_comm (2 ^ k) 2, ← Int.mul_assoc, ← Int.mul_assoc, Int.mul_comm per 2]
      rw [← e2] at hp
      have HW2 := Lib.hid e2
      have v2 : IntKind.i64.wrap (2 * Wk) = 2 * Wk := IntWalk.i64_in _ (by omega)
      clear e2 HW
      go_wp2_with fail
      exact ⟨⟨k + 1, 2 * Wk, rfl, by go_num, by omega, hp, HW2, HB2⟩, by simp [intOf]; omega⟩
    · have tk : decide ((k : Int) < (f : Int)) = false := decide_eq_false (by omega)
      have tk2 : decide (k < f) = false := decide_eq_false hkf
      have hkf2 : k = f := by omega
      have g1 := HB2.out.hc 1 (.int .i64 now) (by rw [HHD.out]; rfl)
      have v3 : IntKind.i64.wrap (now + Wk) = now + Wk := IntWalk.i64_in _ (by omega)
      have e3 := HRH.out none 0
      rw [← hkf2, ← HW.out, hkf2] at e3
      have HR2 := Lib.hid e3
      clear e3 HRH HW hkf2
      go_wp2_with ((with_reducible refine atS 303 301 ?_); refine wpList_storeC rfl 3 (.tmp 303) (.tmp 301) rfl gr (o + 3) (.int .i64 (now + Wk)) (by rfl) (by rfl) rfl info3 64 _ HB2.out.src (HB2.out.lts (k := 3) (by decide)) ?_; intro XC hb1 ht1; have HC := Lib.hid (HB2.out.put 3 (.int .i64 (now + Wk)) (by decide) { r with out := false, ledA := none, ledC := 0, led := [], fails := ((f : Nat) : Int), due := now + Wk } rfl (fun h => h.like rfl rfl rfl) hb1 ht1); clear hb1 ht1)
      go_ret2
      exact RHQ.mk none 0 HR2.out HC.out
set_option maxHeartbeats 16000000 in
set_option maxRecDepth 100000 in
theorem rhear_lost_303 (per now : Int) (r : RSrc) (lost : Bool) (st : Int) (loc et mo lb : Bs) (Ab : Option Addr) (cb : Nat) (P : Nat → Prop) (g gr i n cap : Nat) (pre post : List Value) (w : World)
    (hi : i < n) (hcap : n ≤ cap ∧ cap ≤ 9223372036854775807) (hsrc : Blk w gr 64 (pre ++ rcs r ++ post)) (hhead : Blk w g 62 [.int .i64 per, .int .i64 now, .slice (some ⟨gr, 0, none⟩) n cap]) (hled : LedRd w P r) (hne : g ≠ gr) (hP : ∀ b, P b → b ≠ gr) (hP2 : ∀ b, w.heap.size ≤ b → P b) (hpre : pre.length = i * 8)
    (hout : r.out = true) (hok : SOk (toS r)) (hper : 1 ≤ per ∧ per ≤ 1048576) (hnow : 0 ≤ now ∧ now ≤ 1000000000) (hll : lb.length ≤ 1000000000) (hloc : loc.length ≤ 1000000) (het : et.length ≤ 1000000) (hmo : mo.length ≤ 1000000) :
    Calls Tryz.prog 33 #[ptr g, .int .i64 ((i : Nat) : Int), .agg (acs ⟨true, 303, loc, et, mo, .slice Ab lb.length cb⟩).toArray] w (RHQ per now r ⟨true, 303, loc, et, mo, .slice Ab lb.length cb⟩ lb.length P g gr (i * 8) pre post [.int .i64 per, .int .i64 now, .slice (some ⟨gr, 0, none⟩) n cap] w) := by
  obtain ⟨a, ha⟩ : ∃ a : Ans, a = ⟨true, 303, loc, et, mo, .slice Ab lb.length cb⟩ := ⟨_, rfl⟩
  obtain ⟨hd, hhd⟩ : ∃ hd : List Value, hd = [.int .i64 per, .int .i64 now, .slice (some ⟨gr, 0, none⟩) n cap] := ⟨_, rfl⟩
  obtain ⟨o, ho⟩ : ∃ o, o = i * 8 := ⟨_, rfl⟩
  rw [← ho] at hpre
  rw [← hhd] at hhead
  rw [← ha, ← hhd, ← ho]
  have HHD := Lib.hid hhd
  have HAA := Lib.hid ha
  have H0 := Lib.hid (RHS.start (a := a) hsrc hhead hled hne hP hpre)
  have HP2 := Lib.hid hP2
  have HOK := Lib.hid hok
  have hlen5 : r.led.length ≤ 5 := hok.hops
  have hf6 : 0 ≤ r.fails ∧ r.fails ≤ 6 := hok.fails
  have t0 : decide ((i : Int) < 0) = false := decide_eq_false (by omega)
  have t1 : decide ((i : Int) ≥ (n : Int)) = false := decide_eq_false (by omega)
  have t2 : decide ((n : Int) ≤ (i : Int)) = false := decide_eq_false (by omega)
  have t3 : decide (n ≤ i) = false := decide_eq_false (by omega)
  have s7 := H0.out.sc 7 (.bool true) (by rw [← hout]; rfl)
  have g2 := H0.out.hc 2 (.slice (some ⟨gr, 0, none⟩) n cap) (by rw [hhd]; rfl)
  clear hsrc hhead hled hne hP hP2 hpre hok ha hhd hout
  rw [ho] at s7
  have HO2 := Lib.hid ho
  clear ho
  unfold ptr
  go_enter Tryz.func33, Tryz.ntmps33
  go_upto_region 4 with fail
  clear t0 t1 t2 t3 s7 g2
  rw [← HO2.out]
  clear HO2
  obtain ⟨nl, hnl⟩ : ∃ nl, nl = r.led.length := ⟨_, rfl⟩
  rw [← hnl] at hlen5
  have HNL := Lib.hid hnl
  clear hnl hi hcap
  go_upto_region 6 with ((with_reducible refine atC 48 ?_); refine wpList_storeC rfl 4 (.tmp 48) (.const (.bool false)) rfl gr (o + 7) (.bool false) (by rfl) (by rfl) rfl info4 64 _ H0.out.src (H0.out.lts (by decide)) ?_; intro X1 hb1 ht1; have H1 := Lib.hid (H0.out.put 7 (.bool false) (by decide) { r with out := false } rfl (fun h => h.like rfl rfl rfl) hb1 ht1); have s1 := H1.out.sc 1 (.slice r.ledA nl r.ledC) (by rw [HNL.out]; rfl); clear hb1 ht1)
  clear H0 s1
  have a0 := H1.out.ac 0 (.bool true) (by rw [HAA.out]; rfl)
  have a1 := H1.out.ac 1 (.int .i64 303) (by rw [HAA.out]; rfl)
  have a5 := H1.out.ac 5 (.slice Ab lb.length cb) (by rw [HAA.out]; rfl)
  have hrh := fun A' c' => rh_none (per := per) (now := now) (r := r) (a := a) (n := lb.length) (A' := A') (c' := c') (by rw [HAA.out]; exact (fun h => absurd (show true = false from h.1) (by decide))) (by rw [HAA.out]; exact (fun h => absurd (show true = false from h.1) (by decide))) (by rw [HAA.out]; exact .inl rfl)
  obtain ⟨f, hf1, hf2⟩ : ∃ f : Nat, ((f : Nat) : Int) = min (r.fails + 1) 6 ∧ f ≤ 6 := ⟨(min (r.fails + 1) 6).toNat, by omega, by omega⟩
  rw [← hf1, Int.toNat_natCast] at hrh
  have HF1 := Lib.hid hf1
  have HRH := Lib.hid hrh
  have v1 : IntKind.i64.wrap (r.fails + 1) = r.fails + 1 := IntWalk.i64_in _ (by omega)
  clear hf1 hrh
  go_upto_region 37 with (first | ((with_reducible refine atC 271 ?_); refine wpList_storeC rfl 38 (.tmp 271) (.const (.slice none 0 0)) rfl gr (o + 1) (.slice none 0 0) (by rfl) (by rfl) rfl info38 64 _ H1.out.src (H1.out.lts (k := 1) (by decide)) ?_; intro XA hb1 ht1; have HA := Lib.hid (H1.out.put 1 (.slice none 0 0) (by decide) { r with out := false, ledA := none, ledC := 0, led := [] } rfl (fun _ => LedRd.nil rfl (Nat.zero_le _)) hb1 ht1); have k4 := HA.out.sc 4 (.int .i64 r.fails) rfl; clear hb1 ht1) | ((with_reducible refine atS 280 278 ?_); refine wpList_storeC rfl 3 (.tmp 280) (.tmp 278) rfl gr (o + 4) (.int .i64 ((f : Nat) : Int)) (by rfl) (by rw [HF1.out]; rfl) rfl info3 64 _ HA.out.src (HA.out.lts (k := 4) (by decide)) ?_; intro XB hb1 ht1; have HB := Lib.hid (HA.out.put 4 (.int .i64 ((f : Nat) : Int)) (by decide) { r with out := false, ledA := none, ledC := 0, led := [], fails := ((f : Nat) : Int) } rfl (fun h => h.like rfl rfl rfl) hb1 ht1); clear hb1 ht1))
  try simp only [Act.put, List.getElem_toArray, List.getElem_cons_succ, List.getElem_cons_zero, List.setIfInBounds_toArray, List.set_cons_zero, List.set_cons_succ]
  clear HA v1 H1
  have g0 := HB.out.hc 0 (.int .i64 per) (by rw [HHD.out]; rfl)
  go_wp2_with fail
  go_loopw [16, 17] (fun wv kv wx => ∃ (k : Nat) (Wk : Int), wv = .int .i64 Wk ∧ kv = .int .i64 (k : Int) ∧ k ≤ f ∧ (1 ≤ Wk ∧ Wk ≤ 67108864) ∧ Hid (Wk = per * 2 ^ k) ∧ Hid (RHS w wx P g gr o pre post hd { r with out := false, ledA := none, ledC := 0, led := [], fails := ((f : Nat) : Int) } a)) (fun _ kv _ => f - (intOf kv).toNat)
  case atStart => exact ⟨0, per, rfl, rfl, Nat.zero_le _, ⟨hper.1, by omega⟩, Lib.hid (by simp), HB⟩
  case round =>
    obtain ⟨k, Wk, rfl, rfl, hk, hW, HW, HB2⟩ := hrel
    clear HB g0
    have k4 := HB2.out.sc 4 (.int .i64 ((f : Nat) : Int)) rfl
    by_cases hkf : k < f
    · have tk : decide ((k : Int) < (f : Int)) = true := decide_eq_true (by omega)
      have tk2 : decide (k < f) = true := decide_eq_true hkf
      have hp := pow_bound per ((k + 1 : Nat) : Int) hper (by omega)
      rw [Int.toNat_natCast] at hp
      have e2 : 2 * Wk = per * 2 ^ (k + 1) := by rw [HW.out, Int.pow_succ]; rw [Int.mul_comm (2 ^ k) 2, ← Int.mul_assoc, ← Int.mul_assoc, Int.mul_comm per 2]
      rw [← e2] at hp
      have HW2 := Lib.hid e2
      have v2 : IntKind.i64.wrap (2 * Wk) = 2 * Wk := IntWalk.i64_in _ (by omega)
      clear e2 HW
      go_wp2_with fail
      exact ⟨⟨k + 1, 2 * Wk, rfl, by go_num, by omega, hp, HW2, HB2⟩, by simp [intOf]; omega⟩
    · have tk : decide ((k : Int) < (f : Int)) = false := decide_eq_false (by omega)
      have tk2 : decide (k < f) = false := decide_eq_false hkf
      have hkf2 : k = f := by omega
      have g1 := HB2.out.hc 1 (.int .i64 now) (by rw [HHD.out]; rfl)
      have v3 : IntKind.i64.wrap (now + Wk) = now + Wk := IntWalk.i64_in _ (by omega)
      have e3 := HRH.out none 0
      rw [← hkf2, ← HW.out, hkf2] at e3
      have HR2 := Lib.hid e3
      clear e3 HRH HW hkf2
      go_wp2_with ((with_reducible refine atS 303 301 ?_); refine wpList_storeC rfl 3 (.tmp 303) (.tmp 301) rfl gr (o + 3) (.int .i64 (now + Wk)) (by rfl) (by rfl) rfl info3 64 _ HB2.out.src (HB2.out.lts (k := 3) (by decide)) ?_; intro XC hb1 ht1; have HC := Lib.hid (HB2.out.put 3 (.int .i64 (now + Wk)) (by decide) { r with out := false, ledA := none, ledC := 0, led := [], fails := ((f : Nat) : Int), due := now + Wk } rfl (fun h => h.like rfl rfl rfl) hb1 ht1); clear hb1 ht1)
      go_ret2
      exact RHQ.mk none 0 HR2.out HC.out
end Go.Proofs.YtcpkkaimingnlaaGreatDoor
