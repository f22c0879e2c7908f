/-
  The document's Hear: an answer that is taken.
-/
import Derived.Test.YtcpkkaimingnlaaGreatDoorRhs
set_option linter.unusedVariables false
set_option linter.unusedSimpArgs false
namespace Go.Proofs.YtcpkkaimingnlaaGreatDoor
open Go.RowKit

/-- What Hear leaves behind. -/
def RHQ (per now : Int) (r : RSrc) (a : Ans) (nb : Nat) (P : Nat → Prop) (g gr o : Nat) (pre post hd : List Value) (w : World) (e : Ending) (w' : World) : Prop :=
  ∃ A' c', e = .returned (.tuple #[.bool (rhearA per now r a nb A' c').2, .int .i64 0]) ∧ RHS w w' P g gr o pre post hd (rhearA per now r a nb A' c').1 a
theorem RHQ.mk {per now : Int} {r : RSrc} {a : Ans} {nb : Nat} {P : Nat → Prop} {g gr o : Nat} {pre post hd : List Value} {w w' : World} (A' : Option Addr) (c' : Nat) {r' : RSrc} {b : Bool} (h : rhearA per now r a nb A' c' = (r', b)) (hs : RHS w w' P g gr o pre post hd r' a) : RHQ per now r a nb P g gr o pre post hd w (.returned (.tuple #[.bool b, .int .i64 0])) w' :=
  ⟨A', c', by rw [h], by rw [h]; exact hs⟩
set_option maxHeartbeats 16000000 in
set_option maxRecDepth 100000 in
theorem rhear_took (per now : Int) (r : RSrc) (lost : Bool) (st : Int) (loc et mo lb : Bs) (Ab : Option Addr) (cb : Nat) (P : Nat → Prop) (g gr i n cap : Nat) (pre post : List Value) (w : World)
    (hi : i < n) (hcap : n ≤ cap ∧ cap ≤ 9223372036854775807) (hsrc : Blk w gr 64 (pre ++ rcs r ++ post)) (hhead : Blk w g 62 [.int .i64 per, .int .i64 now, .slice (some ⟨gr, 0, none⟩) n cap]) (hled : LedRd w P r) (hne : g ≠ gr) (hP : ∀ b, P b → b ≠ gr) (hP2 : ∀ b, w.heap.size ≤ b → P b) (hpre : pre.length = i * 8)
    (hout : r.out = true) (hok : SOk (toS r)) (hper : 1 ≤ per ∧ per ≤ 1048576) (hnow : 0 ≤ now ∧ now ≤ 1000000000) (hll : lb.length ≤ 1000000000) (hloc : loc.length ≤ 1000000) (het : et.length ≤ 1000000) (hmo : mo.length ≤ 1000000) (hnb : lb.length ≤ 65536) :
    Calls Tryz.prog 33 #[ptr g, .int .i64 ((i : Nat) : Int), .agg (acs ⟨false, 200, loc, et, mo, .slice Ab lb.length cb⟩).toArray] w (RHQ per now r ⟨false, 200, loc, et, mo, .slice Ab lb.length cb⟩ lb.length P g gr (i * 8) pre post [.int .i64 per, .int .i64 now, .slice (some ⟨gr, 0, none⟩) n cap] w) := by
  obtain ⟨a, ha⟩ : ∃ a : Ans, a = ⟨false, 200, loc, et, mo, .slice Ab lb.length cb⟩ := ⟨_, rfl⟩
  obtain ⟨hd, hhd⟩ : ∃ hd : List Value, hd = [.int .i64 per, .int .i64 now, .slice (some ⟨gr, 0, none⟩) n cap] := ⟨_, rfl⟩
  obtain ⟨o, ho⟩ : ∃ o, o = i * 8 := ⟨_, rfl⟩
  rw [← ho] at hpre
  rw [← hhd] at hhead
  rw [← ha, ← hhd, ← ho]
  have HHD := Lib.hid hhd
  have HAA := Lib.hid ha
  have H0 := Lib.hid (RHS.start (a := a) hsrc hhead hled hne hP hpre)
  have HP2 := Lib.hid hP2
  have HOK := Lib.hid hok
  have hlen5 : r.led.length ≤ 5 := hok.hops
  have hf6 : 0 ≤ r.fails ∧ r.fails ≤ 6 := hok.fails
  have t0 : decide ((i : Int) < 0) = false := decide_eq_false (by omega)
  have t1 : decide ((i : Int) ≥ (n : Int)) = false := decide_eq_false (by omega)
  have t2 : decide ((n : Int) ≤ (i : Int)) = false := decide_eq_false (by omega)
  have t3 : decide (n ≤ i) = false := decide_eq_false (by omega)
  have s7 := H0.out.sc 7 (.bool true) (by rw [← hout]; rfl)
  have g2 := H0.out.hc 2 (.slice (some ⟨gr, 0, none⟩) n cap) (by rw [hhd]; rfl)
  clear hsrc hhead hled hne hP hP2 hpre hok ha hhd hout
  rw [ho] at s7
  have HO2 := Lib.hid ho
  clear ho
  unfold ptr
  go_enter Tryz.func33, Tryz.ntmps33
  go_upto_region 4 with fail
  clear t0 t1 t2 t3 s7 g2
  rw [← HO2.out]
  clear HO2
  obtain ⟨nl, hnl⟩ : ∃ nl, nl = r.led.length := ⟨_, rfl⟩
  rw [← hnl] at hlen5
  have HNL := Lib.hid hnl
  clear hnl hi hcap
  go_upto_region 6 with ((with_reducible refine atC 48 ?_); refine wpList_storeC rfl 4 (.tmp 48) (.const (.bool false)) rfl gr (o + 7) (.bool false) (by rfl) (by rfl) rfl info4 64 _ H0.out.src (H0.out.lts (by decide)) ?_; intro X1 hb1 ht1; have H1 := Lib.hid (H0.out.put 7 (.bool false) (by decide) { r with out := false } rfl (fun h => h.like rfl rfl rfl) hb1 ht1); have s1 := H1.out.sc 1 (.slice r.ledA nl r.ledC) (by rw [HNL.out]; rfl); clear hb1 ht1)
  clear H0 s1
  have a0 := H1.out.ac 0 (.bool false) (by rw [HAA.out]; rfl)
  have a1 := H1.out.ac 1 (.int .i64 200) (by rw [HAA.out]; rfl)
  have a5 := H1.out.ac 5 (.slice Ab lb.length cb) (by rw [HAA.out]; rfl)
  have q2 : decide ((lb.length : Int) ≤ 65536) = true := decide_eq_true (by omega)
  have q3 : decide (lb.length ≤ 65536) = true := decide_eq_true hnb
  have v9 : IntKind.i64.wrap (now + per) = now + per := IntWalk.i64_in _ (by omega)
  have hrh := fun A' c' => rh_200 (per := per) (now := now) (r := r) (a := a) (n := lb.length) (A' := A') (c' := c') (by rw [HAA.out]) (by rw [HAA.out]) hnb
  rw [show a.etag = et by rw [HAA.out], show a.mod = mo by rw [HAA.out]] at hrh
  by_cases hz : 0 < nl
  · have t1 : decide ((nl : Int) > 0) = true := decide_eq_true (by omega)
    have t3 : decide (0 < nl) = true := decide_eq_true hz
    cases hla : r.lasting with
    | true =>
      have s2 := H1.out.sc 2 (.bool true) (by rw [← hla]; rfl)
      rw [if_pos ⟨by rw [← HNL.out]; exact hz, hla⟩] at hrh
      have s1 := H1.out.sc 1 (.slice r.ledA nl r.ledC) (by rw [HNL.out]; rfl)
      have hl0 := H1.out.led.at'
      have hl0 : r.led = [] ∨ ∃ b, r.ledA = some ⟨b, 0, none⟩ ∧ P b ∧ b < X1.heap.size ∧ ∀ j, j < r.led.length → X1.cell? ⟨b, j, none⟩ = some (.string (bs (r.led.getD j []))) := hl0
      obtain ⟨b, hAl, _, hbX, hcl⟩ := hl0.resolve_left (fun e => by rw [HNL.out, e] at hz; cases hz)
      have hv : IntKind.i64.wrap ((nl : Int) - 1) = ((nl - 1 : Nat) : Int) := by rw [IntWalk.i64_in _ (by omega)]; omega
      have hlt : nl - 1 < nl := by omega
      have hc1 := hcl (nl - 1) (by rw [← HNL.out]; exact hlt)
      have e2 := Lib.hid (show lastL r = r.led.getD (nl - 1) [] by unfold lastL; rw [HNL.out])
      rw [hAl] at s1
      clear hcl hAl hl0
      generalize r.led.getD (nl - 1) [] = ls at *
      generalize nl - 1 = l1 at *
      rw [e2.out] at hrh
      have HRH := Lib.hid hrh
      clear hrh e2 hla
      go_upto_region 10 with (first | ((with_reducible refine atS 86 84 ?_); refine wpList_storeC rfl 9 (.tmp 86) (.tmp 84) rfl gr o (.string (bs ls)) (by rfl) (by rfl) rfl info9 64 _ H1.out.src (H1.out.lts (k := 0) (by decide)) ?_; intro X2 hb1 ht1; have H2 := Lib.hid (H1.out.put 0 (.string (bs ls)) (by decide) { r with out := false, own := ls } rfl (fun h => h.like rfl rfl rfl) hb1 ht1); clear hb1 ht1) | ((with_reducible refine atC 89 ?_); refine wpList_storeC rfl 38 (.tmp 89) (.const (.slice none 0 0)) rfl gr (o + 1) (.slice none 0 0) (by rfl) (by rfl) rfl info38 64 _ H2.out.src (H2.out.lts (k := 1) (by decide)) ?_; intro X3 hb1 ht1; have H3 := Lib.hid (H2.out.put 1 (.slice none 0 0) (by decide) { r with out := false, own := ls, ledA := none, ledC := 0, led := [] } rfl (fun _ => LedRd.nil rfl (Nat.zero_le _)) hb1 ht1); clear hb1 ht1))
      try simp only [Act.put, List.getElem_toArray, List.getElem_cons_succ, List.getElem_cons_zero, List.setIfInBounds_toArray, List.set_cons_zero, List.set_cons_succ]
      have g0 := H3.out.hc 0 (.int .i64 per) (by rw [HHD.out]; rfl)
      have g1 := H3.out.hc 1 (.int .i64 now) (by rw [HHD.out]; rfl)
      refine wp_region_noPanic ?_
      refine wp_region_held_drew (S := (fun W => W.cell? ⟨g, 0, none⟩ = some (.int .i64 per) ∧ W.cell? ⟨g, 1, none⟩ = some (.int .i64 now))) (by kernel_rfl) (by exact ⟨g0, g1⟩) (fun hHeld => ?_)
      refine wpAnyH_take (i := 0) (v := ?v1) rfl (by kernel_rfl) (by kernel_rfl) (by kernel_rfl) (fun _ _ _ h => h) (Or.inl ⟨by kernel_rfl, ?y1⟩) (by assumption) ?t1
      case y1 => (intro w hSw; (try dsimp only at hSw); go_simp; try with_reducible rfl)
      try simp only [Act.put, List.getElem_toArray, List.getElem_cons_succ, List.getElem_cons_zero, List.setIfInBounds_toArray, List.set_cons_zero, List.set_cons_succ]
      refine wpAnyH_take (i := 1) (v := ?v2) rfl (by kernel_rfl) (by kernel_rfl) (by kernel_rfl) (fun _ _ _ h => h) (Or.inl ⟨by kernel_rfl, ?y2⟩) (by assumption) ?t2
      case y2 => (intro w hSw; (try dsimp only at hSw); go_simp; try with_reducible rfl)
      try simp only [Act.put, List.getElem_toArray, List.getElem_cons_succ, List.getElem_cons_zero, List.setIfInBounds_toArray, List.set_cons_zero, List.set_cons_succ]
      refine wpAnyH_take (i := 2) (v := ?v3) rfl (by kernel_rfl) (by kernel_rfl) (by kernel_rfl) (fun _ _ _ h => h) (Or.inl ⟨by kernel_rfl, ?y3⟩) (by assumption) ?t3
      case y3 => (intro w hSw; (try dsimp only at hSw); go_simp; try with_reducible rfl)
      try simp only [Act.put, List.getElem_toArray, List.getElem_cons_succ, List.getElem_cons_zero, List.setIfInBounds_toArray, List.set_cons_zero, List.set_cons_succ]
      refine wpAnyH_take (i := 3) (v := ?v4) rfl (by kernel_rfl) (by kernel_rfl) (by kernel_rfl) (fun _ _ _ h => h) (Or.inl ⟨by kernel_rfl, ?y4⟩) (by assumption) ?t4
      case y4 => (intro w hSw; (try dsimp only at hSw); go_simp; try with_reducible rfl)
      try simp only [Act.put, List.getElem_toArray, List.getElem_cons_succ, List.getElem_cons_zero, List.setIfInBounds_toArray, List.set_cons_zero, List.set_cons_succ]
      refine wpAnyH_take (i := 4) (v := ?v5) rfl (by kernel_rfl) (by kernel_rfl) (by kernel_rfl) (fun _ _ _ h => h) (Or.inl ⟨by kernel_rfl, ?y5⟩) (by assumption) ?t5
      case y5 => (intro w hSw; (try dsimp only at hSw); go_simp; try with_reducible rfl)
      try simp only [Act.put, List.getElem_toArray, List.getElem_cons_succ, List.getElem_cons_zero, List.setIfInBounds_toArray, List.set_cons_zero, List.set_cons_succ]
      refine wpAnyH_take (i := 5) (v := ?v6) rfl (by kernel_rfl) (by kernel_rfl) (by kernel_rfl) (fun _ _ _ h => h) (Or.inl ⟨by kernel_rfl, ?y6⟩) (by assumption) ?t6
      case y6 => (intro w hSw; (try dsimp only at hSw); go_simp; try with_reducible rfl)
      try simp only [Act.put, List.getElem_toArray, List.getElem_cons_succ, List.getElem_cons_zero, List.setIfInBounds_toArray, List.set_cons_zero, List.set_cons_succ]
      refine wpAnyH_take (i := 6) (v := ?v7) rfl (by kernel_rfl) (by kernel_rfl) (by kernel_rfl) (fun _ _ _ h => h) (Or.inl ⟨by kernel_rfl, ?y7⟩) (by assumption) ?t7
      case y7 => (intro w hSw; (try dsimp only at hSw); go_simp; try with_reducible rfl)
      try simp only [Act.put, List.getElem_toArray, List.getElem_cons_succ, List.getElem_cons_zero, List.setIfInBounds_toArray, List.set_cons_zero, List.set_cons_succ]
      refine wpAnyH_take (i := 7) (v := ?v8) rfl (by kernel_rfl) (by kernel_rfl) (by kernel_rfl) (fun _ _ _ h => h) (Or.inl ⟨by kernel_rfl, ?y8⟩) (by assumption) ?t8
      case y8 => (intro w hSw; (try dsimp only at hSw); go_simp; try with_reducible rfl)
      try simp only [Act.put, List.getElem_toArray, List.getElem_cons_succ, List.getElem_cons_zero, List.setIfInBounds_toArray, List.set_cons_zero, List.set_cons_succ]
      refine wpAnyH_take (i := 8) (v := ?v9) rfl (by kernel_rfl) (by kernel_rfl) (by kernel_rfl) (fun _ _ _ h => h) (Or.inl ⟨by kernel_rfl, ?y9⟩) (by assumption) ?t9
      case y9 => (intro w hSw; (try dsimp only at hSw); go_simp; try with_reducible rfl)
      try simp only [Act.put, List.getElem_toArray, List.getElem_cons_succ, List.getElem_cons_zero, List.setIfInBounds_toArray, List.set_cons_zero, List.set_cons_succ]
      refine wpAnyH_take (i := 9) (v := .int .i64 (now + per)) rfl (by kernel_rfl) (by kernel_rfl) (by kernel_rfl) (fun _ _ _ h => h) (Or.inl ⟨by kernel_rfl, ?y10⟩) (by assumption) ?_
      case y10 => (intro w hSw; (try dsimp only at hSw); go_simp; try with_reducible rfl)
      try simp only [Act.put, List.getElem_toArray, List.getElem_cons_succ, List.getElem_cons_zero, List.setIfInBounds_toArray, List.set_cons_zero, List.set_cons_succ]
      refine wpAnyH_take (i := 10) (v := ?v11) rfl (by kernel_rfl) (by kernel_rfl) (by kernel_rfl) (fun _ _ _ h => h) (Or.inl ⟨by kernel_rfl, ?y11⟩) (by assumption) ?t11
      case y11 => (intro w hSw; (try dsimp only at hSw); go_simp; try with_reducible rfl)
      try simp only [Act.put, List.getElem_toArray, List.getElem_cons_succ, List.getElem_cons_zero, List.setIfInBounds_toArray, List.set_cons_zero, List.set_cons_succ]
      refine wpAnyH_take (i := 11) (v := ?v12) rfl (by kernel_rfl) (by kernel_rfl) (by kernel_rfl) (fun _ _ _ h => h) (Or.inl ⟨by kernel_rfl, ?y12⟩) (by assumption) ?t12
      case y12 => (intro w hSw; (try dsimp only at hSw); go_simp; try with_reducible rfl)
      try simp only [Act.put, List.getElem_toArray, List.getElem_cons_succ, List.getElem_cons_zero, List.setIfInBounds_toArray, List.set_cons_zero, List.set_cons_succ]
      refine wpAnyH_storeC 12 rfl (by kernel_rfl) (by kernel_rfl) 3 (.tmp 101) (.tmp 99) rfl gr (o + 3) (.int .i64 (now + per)) (by rfl) (by rfl) rfl info3 64 _ H3.out.drew.src (H3.out.lts (by decide)) ?_
      intro X4 hb1 ht1
      have H4 := Lib.hid (H3.out.drew.put 3 (.int .i64 (now + per)) (by decide) { r with out := false, own := ls, ledA := none, ledC := 0, led := [], due := now + per } rfl (fun h => h.like rfl rfl rfl) hb1 ht1)
      clear hb1 ht1 g0 g1
      refine ⟨⟨H4.out.hc 0 (.int .i64 per) (by rw [HHD.out]; rfl), H4.out.hc 1 (.int .i64 now) (by rw [HHD.out]; rfl)⟩, fun hHeld => ?_⟩
      try simp only [Act.put, List.getElem_toArray, List.getElem_cons_succ, List.getElem_cons_zero, List.setIfInBounds_toArray, List.set_cons_zero, List.set_cons_succ]
      refine wpAnyH_done (by kernel_rfl) ?_ _
      refine NoPanic.normal ?_
      try simp only [Act.put, List.getElem_toArray, List.getElem_cons_succ, List.getElem_cons_zero, List.setIfInBounds_toArray, List.set_cons_zero, List.set_cons_succ]
      clear hHeld
      go_upto_region 13 with (first | ((with_reducible refine atC 104 ?_); refine wpList_storeC rfl 3 (.tmp 104) (.const (.int .i64 0)) rfl gr (o + 4) (.int .i64 0) (by rfl) (by rfl) rfl info3 64 _ H4.out.src (H4.out.lts (k := 4) (by decide)) ?_; intro X5 hb1 ht1; have H5 := Lib.hid (H4.out.put 4 (.int .i64 0) (by decide) { r with out := false, own := ls, ledA := none, ledC := 0, led := [], due := now + per, fails := 0 } rfl (fun h => h.like rfl rfl rfl) hb1 ht1); have a3 := H5.out.ac 3 (.string (bs et)) (by rw [HAA.out]; rfl); clear hb1 ht1) | (go_at_call 70; refine (rtag_any et X5 het).mono ?_; rintro e w6 ⟨rfl, hb6⟩; have H6 := Lib.hid (H5.out.call hb6); clear hb6) | ((with_reducible refine atS 110 108 ?_); refine wpList_storeC rfl 9 (.tmp 110) (.tmp 108) rfl gr (o + 5) (.string (bs (tagP et))) (by rfl) (by rfl) rfl info9 64 _ H6.out.src (H6.out.lts (k := 5) (by decide)) ?_; intro X7 hb1 ht1; have H7 := Lib.hid (H6.out.put 5 (.string (bs (tagP et))) (by decide) { r with out := false, own := ls, ledA := none, ledC := 0, led := [], due := now + per, fails := 0, etag := tagP et } rfl (fun h => h.like rfl rfl rfl) hb1 ht1); clear hb1 ht1))
      try simp only [Act.put, List.getElem_toArray, List.getElem_cons_succ, List.getElem_cons_zero, List.setIfInBounds_toArray, List.set_cons_zero, List.set_cons_succ]
      have a4 := H7.out.ac 4 (.string (bs mo)) (by rw [HAA.out]; rfl)
      go_wp2_with (first | (go_at_call 70; refine (rtag_any mo X7 hmo).mono ?_; rintro e w8 ⟨rfl, hb8⟩; have H8 := Lib.hid (H7.out.call hb8); clear hb8) | ((with_reducible refine atS 116 114 ?_); refine wpList_storeC rfl 9 (.tmp 116) (.tmp 114) rfl gr (o + 6) (.string (bs (tagP mo))) (by rfl) (by rfl) rfl info9 64 _ H8.out.src (H8.out.lts (k := 6) (by decide)) ?_; intro X9 hb1 ht1; have H9 := Lib.hid (H8.out.put 6 (.string (bs (tagP mo))) (by decide) { r with out := false, own := ls, ledA := none, ledC := 0, led := [], due := now + per, fails := 0, etag := tagP et, mod := tagP mo } rfl (fun h => h.like rfl rfl rfl) hb1 ht1); clear hb1 ht1))
      go_ret2
      exact RHQ.mk none 0 (HRH.out none 0) H9.out
    | false =>
      have s2 := H1.out.sc 2 (.bool false) (by rw [← hla]; rfl)
      rw [if_neg (fun h => by rw [hla] at h; exact absurd h.2 (by decide))] at hrh
      have HRH := Lib.hid hrh
      clear hrh hla
      go_upto_region 10 with (first | ((with_reducible refine atC 89 ?_); refine wpList_storeC rfl 38 (.tmp 89) (.const (.slice none 0 0)) rfl gr (o + 1) (.slice none 0 0) (by rfl) (by rfl) rfl info38 64 _ H1.out.src (H1.out.lts (k := 1) (by decide)) ?_; intro X3 hb1 ht1; have H3 := Lib.hid (H1.out.put 1 (.slice none 0 0) (by decide) { r with out := false, ledA := none, ledC := 0, led := [] } rfl (fun _ => LedRd.nil rfl (Nat.zero_le _)) hb1 ht1); clear hb1 ht1))
      try simp only [Act.put, List.getElem_toArray, List.getElem_cons_succ, List.getElem_cons_zero, List.setIfInBounds_toArray, List.set_cons_zero, List.set_cons_succ]
      have g0 := H3.out.hc 0 (.int .i64 per) (by rw [HHD.out]; rfl)
      have g1 := H3.out.hc 1 (.int .i64 now) (by rw [HHD.out]; rfl)
      refine wp_region_noPanic ?_
      refine wp_region_held_drew (S := (fun W => W.cell? ⟨g, 0, none⟩ = some (.int .i64 per) ∧ W.cell? ⟨g, 1, none⟩ = some (.int .i64 now))) (by kernel_rfl) (by exact ⟨g0, g1⟩) (fun hHeld => ?_)
      refine wpAnyH_take (i := 0) (v := ?v13) rfl (by kernel_rfl) (by kernel_rfl) (by kernel_rfl) (fun _ _ _ h => h) (Or.inl ⟨by kernel_rfl, ?y13⟩) (by assumption) ?t13
      case y13 => (intro w hSw; (try dsimp only at hSw); go_simp; try with_reducible rfl)
      try simp only [Act.put, List.getElem_toArray, List.getElem_cons_succ, List.getElem_cons_zero, List.setIfInBounds_toArray, List.set_cons_zero, List.set_cons_succ]
      refine wpAnyH_take (i := 1) (v := ?v14) rfl (by kernel_rfl) (by kernel_rfl) (by kernel_rfl) (fun _ _ _ h => h) (Or.inl ⟨by kernel_rfl, ?y14⟩) (by assumption) ?t14
      case y14 => (intro w hSw; (try dsimp only at hSw); go_simp; try with_reducible rfl)
      try simp only [Act.put, List.getElem_toArray, List.getElem_cons_succ, List.getElem_cons_zero, List.setIfInBounds_toArray, List.set_cons_zero, List.set_cons_succ]
      refine wpAnyH_take (i := 2) (v := ?v15) rfl (by kernel_rfl) (by kernel_rfl) (by kernel_rfl) (fun _ _ _ h => h) (Or.inl ⟨by kernel_rfl, ?y15⟩) (by assumption) ?t15
      case y15 => (intro w hSw; (try dsimp only at hSw); go_simp; try with_reducible rfl)
      try simp only [Act.put, List.getElem_toArray, List.getElem_cons_succ, List.getElem_cons_zero, List.setIfInBounds_toArray, List.set_cons_zero, List.set_cons_succ]
      refine wpAnyH_take (i := 3) (v := ?v16) rfl (by kernel_rfl) (by kernel_rfl) (by kernel_rfl) (fun _ _ _ h => h) (Or.inl ⟨by kernel_rfl, ?y16⟩) (by assumption) ?t16
      case y16 => (intro w hSw; (try dsimp only at hSw); go_simp; try with_reducible rfl)
      try simp only [Act.put, List.getElem_toArray, List.getElem_cons_succ, List.getElem_cons_zero, List.setIfInBounds_toArray, List.set_cons_zero, List.set_cons_succ]
      refine wpAnyH_take (i := 4) (v := ?v17) rfl (by kernel_rfl) (by kernel_rfl) (by kernel_rfl) (fun _ _ _ h => h) (Or.inl ⟨by kernel_rfl, ?y17⟩) (by assumption) ?t17
      case y17 => (intro w hSw; (try dsimp only at hSw); go_simp; try with_reducible rfl)
      try simp only [Act.put, List.getElem_toArray, List.getElem_cons_succ, List.getElem_cons_zero, List.setIfInBounds_toArray, List.set_cons_zero, List.set_cons_succ]
      refine wpAnyH_take (i := 5) (v := ?v18) rfl (by kernel_rfl) (by kernel_rfl) (by kernel_rfl) (fun _ _ _ h => h) (Or.inl ⟨by kernel_rfl, ?y18⟩) (by assumption) ?t18
      case y18 => (intro w hSw; (try dsimp only at hSw); go_simp; try with_reducible rfl)
      try simp only [Act.put, List.getElem_toArray, List.getElem_cons_succ, List.getElem_cons_zero, List.setIfInBounds_toArray, List.set_cons_zero, List.set_cons_succ]
      refine wpAnyH_take (i := 6) (v := ?v19) rfl (by kernel_rfl) (by kernel_rfl) (by kernel_rfl) (fun _ _ _ h => h) (Or.inl ⟨by kernel_rfl, ?y19⟩) (by assumption) ?t19
      case y19 => (intro w hSw; (try dsimp only at hSw); go_simp; try with_reducible rfl)
      try simp only [Act.put, List.getElem_toArray, List.getElem_cons_succ, List.getElem_cons_zero, List.setIfInBounds_toArray, List.set_cons_zero, List.set_cons_succ]
      refine wpAnyH_take (i := 7) (v := ?v20) rfl (by kernel_rfl) (by kernel_rfl) (by kernel_rfl) (fun _ _ _ h => h) (Or.inl ⟨by kernel_rfl, ?y20⟩) (by assumption) ?t20
      case y20 => (intro w hSw; (try dsimp only at hSw); go_simp; try with_reducible rfl)
      try simp only [Act.put, List.getElem_toArray, List.getElem_cons_succ, List.getElem_cons_zero, List.setIfInBounds_toArray, List.set_cons_zero, List.set_cons_succ]
      refine wpAnyH_take (i := 8) (v := ?v21) rfl (by kernel_rfl) (by kernel_rfl) (by kernel_rfl) (fun _ _ _ h => h) (Or.inl ⟨by kernel_rfl, ?y21⟩) (by assumption) ?t21
      case y21 => (intro w hSw; (try dsimp only at hSw); go_simp; try with_reducible rfl)
      try simp only [Act.put, List.getElem_toArray, List.getElem_cons_succ, List.getElem_cons_zero, List.setIfInBounds_toArray, List.set_cons_zero, List.set_cons_succ]
      refine wpAnyH_take (i := 9) (v := .int .i64 (now + per)) rfl (by kernel_rfl) (by kernel_rfl) (by kernel_rfl) (fun _ _ _ h => h) (Or.inl ⟨by kernel_rfl, ?y22⟩) (by assumption) ?_
      case y22 => (intro w hSw; (try dsimp only at hSw); go_simp; try with_reducible rfl)
      try simp only [Act.put, List.getElem_toArray, List.getElem_cons_succ, List.getElem_cons_zero, List.setIfInBounds_toArray, List.set_cons_zero, List.set_cons_succ]
      refine wpAnyH_take (i := 10) (v := ?v23) rfl (by kernel_rfl) (by kernel_rfl) (by kernel_rfl) (fun _ _ _ h => h) (Or.inl ⟨by kernel_rfl, ?y23⟩) (by assumption) ?t23
      case y23 => (intro w hSw; (try dsimp only at hSw); go_simp; try with_reducible rfl)
      try simp only [Act.put, List.getElem_toArray, List.getElem_cons_succ, List.getElem_cons_zero, List.setIfInBounds_toArray, List.set_cons_zero, List.set_cons_succ]
      refine wpAnyH_take (i := 11) (v := ?v24) rfl (by kernel_rfl) (by kernel_rfl) (by kernel_rfl) (fun _ _ _ h => h) (Or.inl ⟨by kernel_rfl, ?y24⟩) (by assumption) ?t24
      case y24 => (intro w hSw; (try dsimp only at hSw); go_simp; try with_reducible rfl)
      try simp only [Act.put, List.getElem_toArray, List.getElem_cons_succ, List.getElem_cons_zero, List.setIfInBounds_toArray, List.set_cons_zero, List.set_cons_succ]
      refine wpAnyH_storeC 12 rfl (by kernel_rfl) (by kernel_rfl) 3 (.tmp 101) (.tmp 99) rfl gr (o + 3) (.int .i64 (now + per)) (by rfl) (by rfl) rfl info3 64 _ H3.out.drew.src (H3.out.lts (by decide)) ?_
      intro X4 hb1 ht1
      have H4 := Lib.hid (H3.out.drew.put 3 (.int .i64 (now + per)) (by decide) { r with out := false, ledA := none, ledC := 0, led := [], due := now + per } rfl (fun h => h.like rfl rfl rfl) hb1 ht1)
      clear hb1 ht1 g0 g1
      refine ⟨⟨H4.out.hc 0 (.int .i64 per) (by rw [HHD.out]; rfl), H4.out.hc 1 (.int .i64 now) (by rw [HHD.out]; rfl)⟩, fun hHeld => ?_⟩
      try simp only [Act.put, List.getElem_toArray, List.getElem_cons_succ, List.getElem_cons_zero, List.setIfInBounds_toArray, List.set_cons_zero, List.set_cons_succ]
      refine wpAnyH_done (by kernel_rfl) ?_ _
      refine NoPanic.normal ?_
      try simp only [Act.put, List.getElem_toArray, List.getElem_cons_succ, List.getElem_cons_zero, List.setIfInBounds_toArray, List.set_cons_zero, List.set_cons_succ]
      clear hHeld
      go_upto_region 13 with (first | ((with_reducible refine atC 104 ?_); refine wpList_storeC rfl 3 (.tmp 104) (.const (.int .i64 0)) rfl gr (o + 4) (.int .i64 0) (by rfl) (by rfl) rfl info3 64 _ H4.out.src (H4.out.lts (k := 4) (by decide)) ?_; intro X5 hb1 ht1; have H5 := Lib.hid (H4.out.put 4 (.int .i64 0) (by decide) { r with out := false, ledA := none, ledC := 0, led := [], due := now + per, fails := 0 } rfl (fun h => h.like rfl rfl rfl) hb1 ht1); have a3 := H5.out.ac 3 (.string (bs et)) (by rw [HAA.out]; rfl); clear hb1 ht1) | (go_at_call 70; refine (rtag_any et X5 het).mono ?_; rintro e w6 ⟨rfl, hb6⟩; have H6 := Lib.hid (H5.out.call hb6); clear hb6) | ((with_reducible refine atS 110 108 ?_); refine wpList_storeC rfl 9 (.tmp 110) (.tmp 108) rfl gr (o + 5) (.string (bs (tagP et))) (by rfl) (by rfl) rfl info9 64 _ H6.out.src (H6.out.lts (k := 5) (by decide)) ?_; intro X7 hb1 ht1; have H7 := Lib.hid (H6.out.put 5 (.string (bs (tagP et))) (by decide) { r with out := false, ledA := none, ledC := 0, led := [], due := now + per, fails := 0, etag := tagP et } rfl (fun h => h.like rfl rfl rfl) hb1 ht1); clear hb1 ht1))
      try simp only [Act.put, List.getElem_toArray, List.getElem_cons_succ, List.getElem_cons_zero, List.setIfInBounds_toArray, List.set_cons_zero, List.set_cons_succ]
      have a4 := H7.out.ac 4 (.string (bs mo)) (by rw [HAA.out]; rfl)
      go_wp2_with (first | (go_at_call 70; refine (rtag_any mo X7 hmo).mono ?_; rintro e w8 ⟨rfl, hb8⟩; have H8 := Lib.hid (H7.out.call hb8); clear hb8) | ((with_reducible refine atS 116 114 ?_); refine wpList_storeC rfl 9 (.tmp 116) (.tmp 114) rfl gr (o + 6) (.string (bs (tagP mo))) (by rfl) (by rfl) rfl info9 64 _ H8.out.src (H8.out.lts (k := 6) (by decide)) ?_; intro X9 hb1 ht1; have H9 := Lib.hid (H8.out.put 6 (.string (bs (tagP mo))) (by decide) { r with out := false, ledA := none, ledC := 0, led := [], due := now + per, fails := 0, etag := tagP et, mod := tagP mo } rfl (fun h => h.like rfl rfl rfl) hb1 ht1); clear hb1 ht1))
      go_ret2
      exact RHQ.mk none 0 (HRH.out none 0) H9.out
  · have t1 : decide ((nl : Int) > 0) = false := decide_eq_false (by omega)
    have t3 : decide (0 < nl) = false := decide_eq_false hz
    rw [if_neg (fun h => hz (by rw [HNL.out]; exact h.1))] at hrh
    have HRH := Lib.hid hrh
    clear hrh
    go_upto_region 10 with (first | ((with_reducible refine atC 89 ?_); refine wpList_storeC rfl 38 (.tmp 89) (.const (.slice none 0 0)) rfl gr (o + 1) (.slice none 0 0) (by rfl) (by rfl) rfl info38 64 _ H1.out.src (H1.out.lts (k := 1) (by decide)) ?_; intro X3 hb1 ht1; have H3 := Lib.hid (H1.out.put 1 (.slice none 0 0) (by decide) { r with out := false, ledA := none, ledC := 0, led := [] } rfl (fun _ => LedRd.nil rfl (Nat.zero_le _)) hb1 ht1); clear hb1 ht1))
    try simp only [Act.put, List.getElem_toArray, List.getElem_cons_succ, List.getElem_cons_zero, List.setIfInBounds_toArray, List.set_cons_zero, List.set_cons_succ]
    have g0 := H3.out.hc 0 (.int .i64 per) (by rw [HHD.out]; rfl)
    have g1 := H3.out.hc 1 (.int .i64 now) (by rw [HHD.out]; rfl)
    refine wp_region_noPanic ?_
    refine wp_region_held_drew (S := (fun W => W.cell? ⟨g, 0, none⟩ = some (.int .i64 per) ∧ W.cell? ⟨g, 1, none⟩ = some (.int .i64 now))) (by kernel_rfl) (by exact ⟨g0, g1⟩) (fun hHeld => ?_)
    refine wpAnyH_take (i := 0) (v := ?v25) rfl (by kernel_rfl) (by kernel_rfl) (by kernel_rfl) (fun _ _ _ h => h) (Or.inl ⟨by kernel_rfl, ?y25⟩) (by assumption) ?t25
    case y25 => (intro w hSw; (try dsimp only at hSw); go_simp; try with_reducible rfl)
    try simp only [Act.put, List.getElem_toArray, List.getElem_cons_succ, List.getElem_cons_zero, List.setIfInBounds_toArray, List.set_cons_zero, List.set_cons_succ]
    refine wpAnyH_take (i := 1) (v := ?v26) rfl (by kernel_rfl) (by kernel_rfl) (by kernel_rfl) (fun _ _ _ h => h) (Or.inl ⟨by kernel_rfl, ?y26⟩) (by assumption) ?t26
    case y26 => (intro w hSw; (try dsimp only at hSw); go_simp; try with_reducible rfl)
    try simp only [Act.put, List.getElem_toArray, List.getElem_cons_succ, List.getElem_cons_zero, List.setIfInBounds_toArray, List.set_cons_zero, List.set_cons_succ]
    refine wpAnyH_take (i := 2) (v := ?v27) rfl (by kernel_rfl) (by kernel_rfl) (by kernel_rfl) (fun _ _ _ h => h) (Or.inl ⟨by kernel_rfl, ?y27⟩) (by assumption) ?t27
    case y27 => (intro w hSw; (try dsimp only at hSw); go_simp; try with_reducible rfl)
    try simp only [Act.put, List.getElem_toArray, List.getElem_cons_succ, List.getElem_cons_zero, List.setIfInBounds_toArray, List.set_cons_zero, List.set_cons_succ]
    refine wpAnyH_take (i := 3) (v := ?v28) rfl (by kernel_rfl) (by kernel_rfl) (by kernel_rfl) (fun _ _ _ h => h) (Or.inl ⟨by kernel_rfl, ?y28⟩) (by assumption) ?t28
    case y28 => (intro w hSw; (try dsimp only at hSw); go_simp; try with_reducible rfl)
    try simp only [Act.put, List.getElem_toArray, List.getElem_cons_succ, List.getElem_cons_zero, List.setIfInBounds_toArray, List.set_cons_zero, List.set_cons_succ]
    refine wpAnyH_take (i := 4) (v := ?v29) rfl (by kernel_rfl) (by kernel_rfl) (by kernel_rfl) (fun _ _ _ h => h) (Or.inl ⟨by kernel_rfl, ?y29⟩) (by assumption) ?t29
    case y29 => (intro w hSw; (try dsimp only at hSw); go_simp; try with_reducible rfl)
    try simp only [Act.put, List.getElem_toArray, List.getElem_cons_succ, List.getElem_cons_zero, List.setIfInBounds_toArray, List.set_cons_zero, List.set_cons_succ]
    refine wpAnyH_take (i := 5) (v := ?v30) rfl (by kernel_rfl) (by kernel_rfl) (by kernel_rfl) (fun _ _ _ h => h) (Or.inl ⟨by kernel_rfl, ?y30⟩) (by assumption) ?t30
    case y30 => (intro w hSw; (try dsimp only at hSw); go_simp; try with_reducible rfl)
    try simp only [Act.put, List.getElem_toArray, List.getElem_cons_succ, List.getElem_cons_zero, List.setIfInBounds_toArray, List.set_cons_zero, List.set_cons_succ]
    refine wpAnyH_take (i := 6) (v := ?v31) rfl (by kernel_rfl) (by kernel_rfl) (by kernel_rfl) (fun _ _ _ h => h) (Or.inl ⟨by kernel_rfl, ?y31⟩) (by assumption) ?t31
    case y31 => (intro w hSw; (try dsimp only at hSw); go_simp; try with_reducible rfl)
    try simp only [Act.put, List.getElem_toArray, List.getElem_cons_succ, List.getElem_cons_zero, List.setIfInBounds_toArray, List.set_cons_zero, List.set_cons_succ]
    refine wpAnyH_take (i := 7) (v := ?v32) rfl (by kernel_rfl) (by kernel_rfl) (by kernel_rfl) (fun _ _ _ h => h) (Or.inl ⟨by kernel_rfl, ?y32⟩) (by assumption) ?t32
    case y32 => (intro w hSw; (try dsimp only at hSw); go_simp; try with_reducible rfl)
    try simp only [Act.put, List.getElem_toArray, List.getElem_cons_succ, List.getElem_cons_zero, List.setIfInBounds_toArray, List.set_cons_zero, List.set_cons_succ]
    refine wpAnyH_take (i := 8) (v := ?v33) rfl (by kernel_rfl) (by kernel_rfl) (by kernel_rfl) (fun _ _ _ h => h) (Or.inl ⟨by kernel_rfl, ?y33⟩) (by assumption) ?t33
    case y33 => (intro w hSw; (try dsimp only at hSw); go_simp; try with_reducible rfl)
    try simp only [Act.put, List.getElem_toArray, List.getElem_cons_succ, List.getElem_cons_zero, List.setIfInBounds_toArray, List.set_cons_zero, List.set_cons_succ]
    refine wpAnyH_take (i := 9) (v := .int .i64 (now + per)) rfl (by kernel_rfl) (by kernel_rfl) (by kernel_rfl) (fun _ _ _ h => h) (Or.inl ⟨by kernel_rfl, ?y34⟩) (by assumption) ?_
    case y34 => (intro w hSw; (try dsimp only at hSw); go_simp; try with_reducible rfl)
    try simp only [Act.put, List.getElem_toArray, List.getElem_cons_succ, List.getElem_cons_zero, List.setIfInBounds_toArray, List.set_cons_zero, List.set_cons_succ]
    refine wpAnyH_take (i := 10) (v := ?v35) rfl (by kernel_rfl) (by kernel_rfl) (by kernel_rfl) (fun _ _ _ h => h) (Or.inl ⟨by kernel_rfl, ?y35⟩) (by assumption) ?t35
    case y35 => (intro w hSw; (try dsimp only at hSw); go_simp; try with_reducible rfl)
    try simp only [Act.put, List.getElem_toArray, List.getElem_cons_succ, List.getElem_cons_zero, List.setIfInBounds_toArray, List.set_cons_zero, List.set_cons_succ]
    refine wpAnyH_take (i := 11) (v := ?v36) rfl (by kernel_rfl) (by kernel_rfl) (by kernel_rfl) (fun _ _ _ h => h) (Or.inl ⟨by kernel_rfl, ?y36⟩) (by assumption) ?t36
    case y36 => (intro w hSw; (try dsimp only at hSw); go_simp; try with_reducible rfl)
    try simp only [Act.put, List.getElem_toArray, List.getElem_cons_succ, List.getElem_cons_zero, List.setIfInBounds_toArray, List.set_cons_zero, List.set_cons_succ]
    refine wpAnyH_storeC 12 rfl (by kernel_rfl) (by kernel_rfl) 3 (.tmp 101) (.tmp 99) rfl gr (o + 3) (.int .i64 (now + per)) (by rfl) (by rfl) rfl info3 64 _ H3.out.drew.src (H3.out.lts (by decide)) ?_
    intro X4 hb1 ht1
    have H4 := Lib.hid (H3.out.drew.put 3 (.int .i64 (now + per)) (by decide) { r with out := false, ledA := none, ledC := 0, led := [], due := now + per } rfl (fun h => h.like rfl rfl rfl) hb1 ht1)
    clear hb1 ht1 g0 g1
    refine ⟨⟨H4.out.hc 0 (.int .i64 per) (by rw [HHD.out]; rfl), H4.out.hc 1 (.int .i64 now) (by rw [HHD.out]; rfl)⟩, fun hHeld => ?_⟩
    try simp only [Act.put, List.getElem_toArray, List.getElem_cons_succ, List.getElem_cons_zero, List.setIfInBounds_toArray, List.set_cons_zero, List.set_cons_succ]
    refine wpAnyH_done (by kernel_rfl) ?_ _
    refine NoPanic.normal ?_
    try simp only [Act.put, List.getElem_toArray, List.getElem_cons_succ, List.getElem_cons_zero, List.setIfInBounds_toArray, List.set_cons_zero, List.set_cons_succ]
    clear hHeld
    go_upto_region 13 with (first | ((with_reducible refine atC 104 ?_); refine wpList_storeC rfl 3 (.tmp 104) (.const (.int .i64 0)) rfl gr (o + 4) (.int .i64 0) (by rfl) (by rfl) rfl info3 64 _ H4.out.src (H4.out.lts (k := 4) (by decide)) ?_; intro X5 hb1 ht1; have H5 := Lib.hid (H4.out.put 4 (.int .i64 0) (by decide) { r with out := false, ledA := none, ledC := 0, led := [], due := now + per, fails := 0 } rfl (fun h => h.like rfl rfl rfl) hb1 ht1); have a3 := H5.out.ac 3 (.string (bs et)) (by rw [HAA.out]; rfl); clear hb1 ht1) | (go_at_call 70; refine (rtag_any et X5 het).mono ?_; rintro e w6 ⟨rfl, hb6⟩; have H6 := Lib.hid (H5.out.call hb6); clear hb6) | ((with_reducible refine atS 110 108 ?_); refine wpList_storeC rfl 9 (.tmp 110) (.tmp 108) rfl gr (o + 5) (.string (bs (tagP et))) (by rfl) (by rfl) rfl info9 64 _ H6.out.src (H6.out.lts (k := 5) (by decide)) ?_; intro X7 hb1 ht1; have H7 := Lib.hid (H6.out.put 5 (.string (bs (tagP et))) (by decide) { r with out := false, ledA := none, ledC := 0, led := [], due := now + per, fails := 0, etag := tagP et } rfl (fun h => h.like rfl rfl rfl) hb1 ht1); clear hb1 ht1))
    try simp only [Act.put, List.getElem_toArray, List.getElem_cons_succ, List.getElem_cons_zero, List.setIfInBounds_toArray, List.set_cons_zero, List.set_cons_succ]
    have a4 := H7.out.ac 4 (.string (bs mo)) (by rw [HAA.out]; rfl)
    go_wp2_with (first | (go_at_call 70; refine (rtag_any mo X7 hmo).mono ?_; rintro e w8 ⟨rfl, hb8⟩; have H8 := Lib.hid (H7.out.call hb8); clear hb8) | ((with_reducible refine atS 116 114 ?_); refine wpList_storeC rfl 9 (.tmp 116) (.tmp 114) rfl gr (o + 6) (.string (bs (tagP mo))) (by rfl) (by rfl) rfl info9 64 _ H8.out.src (H8.out.lts (k := 6) (by decide)) ?_; intro X9 hb1 ht1; have H9 := Lib.hid (H8.out.put 6 (.string (bs (tagP mo))) (by decide) { r with out := false, ledA := none, ledC := 0, led := [], due := now + per, fails := 0, etag := tagP et, mod := tagP mo } rfl (fun h => h.like rfl rfl rfl) hb1 ht1); clear hb1 ht1))
    go_ret2
    exact RHQ.mk none 0 (HRH.out none 0) H9.out
end Go.Proofs.YtcpkkaimingnlaaGreatDoor
