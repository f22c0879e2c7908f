/-
  The document's Hear: nothing new.
-/
import Derived.Test.YtcpkkaimingnlaaGreatDoorRh1
set_option linter.unusedVariables false
set_option linter.unusedSimpArgs false
namespace Go.Proofs.YtcpkkaimingnlaaGreatDoor
open Go.RowKit

set_option maxHeartbeats 16000000 in
set_option maxRecDepth 100000 in
theorem rhear_same (per now : Int) (r : RSrc) (lost : Bool) (st : Int) (loc et mo lb : Bs) (Ab : Option Addr) (cb : Nat) (P : Nat → Prop) (g gr i n cap : Nat) (pre post : List Value) (w : World)
    (hi : i < n) (hcap : n ≤ cap ∧ cap ≤ 9223372036854775807) (hsrc : Blk w gr 64 (pre ++ rcs r ++ post)) (hhead : Blk w g 62 [.int .i64 per, .int .i64 now, .slice (some ⟨gr, 0, none⟩) n cap]) (hled : LedRd w P r) (hne : g ≠ gr) (hP : ∀ b, P b → b ≠ gr) (hP2 : ∀ b, w.heap.size ≤ b → P b) (hpre : pre.length = i * 8)
    (hout : r.out = true) (hok : SOk (toS r)) (hper : 1 ≤ per ∧ per ≤ 1048576) (hnow : 0 ≤ now ∧ now ≤ 1000000000) (hll : lb.length ≤ 1000000000) (hloc : loc.length ≤ 1000000) (het : et.length ≤ 1000000) (hmo : mo.length ≤ 1000000) (hz : r.led.length = 0) (htg : r.etag ++ r.mod ≠ []) :
    Calls Tryz.prog 33 #[ptr g, .int .i64 ((i : Nat) : Int), .agg (acs ⟨false, 304, loc, et, mo, .slice Ab lb.length cb⟩).toArray] w (RHQ per now r ⟨false, 304, loc, et, mo, .slice Ab lb.length cb⟩ lb.length P g gr (i * 8) pre post [.int .i64 per, .int .i64 now, .slice (some ⟨gr, 0, none⟩) n cap] w) := by
  obtain ⟨a, ha⟩ : ∃ a : Ans, a = ⟨false, 304, loc, et, mo, .slice Ab lb.length cb⟩ := ⟨_, rfl⟩
  obtain ⟨hd, hhd⟩ : ∃ hd : List Value, hd = [.int .i64 per, .int .i64 now, .slice (some ⟨gr, 0, none⟩) n cap] := ⟨_, rfl⟩
  obtain ⟨o, ho⟩ : ∃ o, o = i * 8 := ⟨_, rfl⟩
  rw [← ho] at hpre
  rw [← hhd] at hhead
  rw [← ha, ← hhd, ← ho]
  have HHD := Lib.hid hhd
  have HAA := Lib.hid ha
  have H0 := Lib.hid (RHS.start (a := a) hsrc hhead hled hne hP hpre)
  have HP2 := Lib.hid hP2
  have HOK := Lib.hid hok
  have hlen5 : r.led.length ≤ 5 := hok.hops
  have hf6 : 0 ≤ r.fails ∧ r.fails ≤ 6 := hok.fails
  have t0 : decide ((i : Int) < 0) = false := decide_eq_false (by omega)
  have t1 : decide ((i : Int) ≥ (n : Int)) = false := decide_eq_false (by omega)
  have t2 : decide ((n : Int) ≤ (i : Int)) = false := decide_eq_false (by omega)
  have t3 : decide (n ≤ i) = false := decide_eq_false (by omega)
  have s7 := H0.out.sc 7 (.bool true) (by rw [← hout]; rfl)
  have g2 := H0.out.hc 2 (.slice (some ⟨gr, 0, none⟩) n cap) (by rw [hhd]; rfl)
  clear hsrc hhead hled hne hP hP2 hpre hok ha hhd hout
  rw [ho] at s7
  have HO2 := Lib.hid ho
  clear ho
  unfold ptr
  go_enter Tryz.func33, Tryz.ntmps33
  go_upto_region 4 with fail
  clear t0 t1 t2 t3 s7 g2
  rw [← HO2.out]
  clear HO2
  obtain ⟨nl, hnl⟩ : ∃ nl, nl = r.led.length := ⟨_, rfl⟩
  rw [← hnl] at hlen5
  have HNL := Lib.hid hnl
  clear hnl hi hcap
  go_upto_region 6 with ((with_reducible refine atC 48 ?_); refine wpList_storeC rfl 4 (.tmp 48) (.const (.bool false)) rfl gr (o + 7) (.bool false) (by rfl) (by rfl) rfl info4 64 _ H0.out.src (H0.out.lts (by decide)) ?_; intro X1 hb1 ht1; have H1 := Lib.hid (H0.out.put 7 (.bool false) (by decide) { r with out := false } rfl (fun h => h.like rfl rfl rfl) hb1 ht1); have s1 := H1.out.sc 1 (.slice r.ledA nl r.ledC) (by rw [HNL.out]; rfl); clear hb1 ht1)
  clear H0 s1
  have a0 := H1.out.ac 0 (.bool false) (by rw [HAA.out]; rfl)
  have a1 := H1.out.ac 1 (.int .i64 304) (by rw [HAA.out]; rfl)
  have a5 := H1.out.ac 5 (.slice Ab lb.length cb) (by rw [HAA.out]; rfl)
  have hrh := fun A' c' => rh_304 (per := per) (now := now) (r := r) (a := a) (n := lb.length) (A' := A') (c' := c') (by rw [HAA.out]) (by rw [HAA.out]) hz htg
  have HRH := Lib.hid hrh
  have hnl0 : nl = 0 := by rw [HNL.out]; exact hz
  clear hrh hz
  have t1 : ((nl : Int) == 0) = true := by rw [hnl0]; rfl
  have v9 : IntKind.i64.wrap (now + per) = now + per := IntWalk.i64_in _ (by omega)
  have s5 := H1.out.sc 5 (.string (bs r.etag)) rfl
  have s6 := H1.out.sc 6 (.string (bs r.mod)) rfl
  by_cases he : r.etag = []
  · have hm : r.mod ≠ [] := fun h => htg (by rw [he, h]; rfl)
    have q5 : (bs r.etag).toList.isEmpty = true := by rw [bs_toList, he]; rfl
    have q6 : (bs r.mod).toList.isEmpty = false := by rw [bs_toList]; exact List.isEmpty_eq_false_iff.2 hm
    clear htg he hm hnl0
    go_upto_region 16 with fail
    clear s5 s6
    have g0 := H1.out.hc 0 (.int .i64 per) (by rw [HHD.out]; rfl)
    have g1 := H1.out.hc 1 (.int .i64 now) (by rw [HHD.out]; rfl)
    refine wp_region_noPanic ?_
    refine wp_region_held_drew (S := (fun W => W.cell? ⟨g, 0, none⟩ = some (.int .i64 per) ∧ W.cell? ⟨g, 1, none⟩ = some (.int .i64 now))) (by kernel_rfl) (by exact ⟨g0, g1⟩) (fun hHeld => ?_)
    refine wpAnyH_take (i := 0) (v := ?v37) rfl (by kernel_rfl) (by kernel_rfl) (by kernel_rfl) (fun _ _ _ h => h) (Or.inl ⟨by kernel_rfl, ?y37⟩) (by assumption) ?t37
    case y37 => (intro w hSw; (try dsimp only at hSw); go_simp; try with_reducible rfl)
    try simp only [Act.put, List.getElem_toArray, List.getElem_cons_succ, List.getElem_cons_zero, List.setIfInBounds_toArray, List.set_cons_zero, List.set_cons_succ]
    refine wpAnyH_take (i := 1) (v := ?v38) rfl (by kernel_rfl) (by kernel_rfl) (by kernel_rfl) (fun _ _ _ h => h) (Or.inl ⟨by kernel_rfl, ?y38⟩) (by assumption) ?t38
    case y38 => (intro w hSw; (try dsimp only at hSw); go_simp; try with_reducible rfl)
    try simp only [Act.put, List.getElem_toArray, List.getElem_cons_succ, List.getElem_cons_zero, List.setIfInBounds_toArray, List.set_cons_zero, List.set_cons_succ]
    refine wpAnyH_take (i := 2) (v := ?v39) rfl (by kernel_rfl) (by kernel_rfl) (by kernel_rfl) (fun _ _ _ h => h) (Or.inl ⟨by kernel_rfl, ?y39⟩) (by assumption) ?t39
    case y39 => (intro w hSw; (try dsimp only at hSw); go_simp; try with_reducible rfl)
    try simp only [Act.put, List.getElem_toArray, List.getElem_cons_succ, List.getElem_cons_zero, List.setIfInBounds_toArray, List.set_cons_zero, List.set_cons_succ]
    refine wpAnyH_take (i := 3) (v := ?v40) rfl (by kernel_rfl) (by kernel_rfl) (by kernel_rfl) (fun _ _ _ h => h) (Or.inl ⟨by kernel_rfl, ?y40⟩) (by assumption) ?t40
    case y40 => (intro w hSw; (try dsimp only at hSw); go_simp; try with_reducible rfl)
    try simp only [Act.put, List.getElem_toArray, List.getElem_cons_succ, List.getElem_cons_zero, List.setIfInBounds_toArray, List.set_cons_zero, List.set_cons_succ]
    refine wpAnyH_take (i := 4) (v := ?v41) rfl (by kernel_rfl) (by kernel_rfl) (by kernel_rfl) (fun _ _ _ h => h) (Or.inl ⟨by kernel_rfl, ?y41⟩) (by assumption) ?t41
    case y41 => (intro w hSw; (try dsimp only at hSw); go_simp; try with_reducible rfl)
    try simp only [Act.put, List.getElem_toArray, List.getElem_cons_succ, List.getElem_cons_zero, List.setIfInBounds_toArray, List.set_cons_zero, List.set_cons_succ]
    refine wpAnyH_take (i := 5) (v := ?v42) rfl (by kernel_rfl) (by kernel_rfl) (by kernel_rfl) (fun _ _ _ h => h) (Or.inl ⟨by kernel_rfl, ?y42⟩) (by assumption) ?t42
    case y42 => (intro w hSw; (try dsimp only at hSw); go_simp; try with_reducible rfl)
    try simp only [Act.put, List.getElem_toArray, List.getElem_cons_succ, List.getElem_cons_zero, List.setIfInBounds_toArray, List.set_cons_zero, List.set_cons_succ]
    refine wpAnyH_take (i := 6) (v := ?v43) rfl (by kernel_rfl) (by kernel_rfl) (by kernel_rfl) (fun _ _ _ h => h) (Or.inl ⟨by kernel_rfl, ?y43⟩) (by assumption) ?t43
    case y43 => (intro w hSw; (try dsimp only at hSw); go_simp; try with_reducible rfl)
    try simp only [Act.put, List.getElem_toArray, List.getElem_cons_succ, List.getElem_cons_zero, List.setIfInBounds_toArray, List.set_cons_zero, List.set_cons_succ]
    refine wpAnyH_take (i := 7) (v := ?v44) rfl (by kernel_rfl) (by kernel_rfl) (by kernel_rfl) (fun _ _ _ h => h) (Or.inl ⟨by kernel_rfl, ?y44⟩) (by assumption) ?t44
    case y44 => (intro w hSw; (try dsimp only at hSw); go_simp; try with_reducible rfl)
    try simp only [Act.put, List.getElem_toArray, List.getElem_cons_succ, List.getElem_cons_zero, List.setIfInBounds_toArray, List.set_cons_zero, List.set_cons_succ]
    refine wpAnyH_take (i := 8) (v := ?v45) rfl (by kernel_rfl) (by kernel_rfl) (by kernel_rfl) (fun _ _ _ h => h) (Or.inl ⟨by kernel_rfl, ?y45⟩) (by assumption) ?t45
    case y45 => (intro w hSw; (try dsimp only at hSw); go_simp; try with_reducible rfl)
    try simp only [Act.put, List.getElem_toArray, List.getElem_cons_succ, List.getElem_cons_zero, List.setIfInBounds_toArray, List.set_cons_zero, List.set_cons_succ]
    refine wpAnyH_take (i := 9) (v := .int .i64 (now + per)) rfl (by kernel_rfl) (by kernel_rfl) (by kernel_rfl) (fun _ _ _ h => h) (Or.inl ⟨by kernel_rfl, ?y46⟩) (by assumption) ?_
    case y46 => (intro w hSw; (try dsimp only at hSw); go_simp; try with_reducible rfl)
    try simp only [Act.put, List.getElem_toArray, List.getElem_cons_succ, List.getElem_cons_zero, List.setIfInBounds_toArray, List.set_cons_zero, List.set_cons_succ]
    refine wpAnyH_take (i := 10) (v := ?v47) rfl (by kernel_rfl) (by kernel_rfl) (by kernel_rfl) (fun _ _ _ h => h) (Or.inl ⟨by kernel_rfl, ?y47⟩) (by assumption) ?t47
    case y47 => (intro w hSw; (try dsimp only at hSw); go_simp; try with_reducible rfl)
    try simp only [Act.put, List.getElem_toArray, List.getElem_cons_succ, List.getElem_cons_zero, List.setIfInBounds_toArray, List.set_cons_zero, List.set_cons_succ]
    refine wpAnyH_take (i := 11) (v := ?v48) rfl (by kernel_rfl) (by kernel_rfl) (by kernel_rfl) (fun _ _ _ h => h) (Or.inl ⟨by kernel_rfl, ?y48⟩) (by assumption) ?t48
    case y48 => (intro w hSw; (try dsimp only at hSw); go_simp; try with_reducible rfl)
    try simp only [Act.put, List.getElem_toArray, List.getElem_cons_succ, List.getElem_cons_zero, List.setIfInBounds_toArray, List.set_cons_zero, List.set_cons_succ]
    refine wpAnyH_storeC 12 rfl (by kernel_rfl) (by kernel_rfl) 3 (.tmp 154) (.tmp 152) rfl gr (o + 3) (.int .i64 (now + per)) (by rfl) (by rfl) rfl info3 64 _ H1.out.drew.src (H1.out.lts (by decide)) ?_
    intro X2 hb1 ht1
    have H2 := Lib.hid (H1.out.drew.put 3 (.int .i64 (now + per)) (by decide) { r with out := false, due := now + per } rfl (fun h => h.like rfl rfl rfl) hb1 ht1)
    clear hb1 ht1 g0 g1
    refine ⟨⟨H2.out.hc 0 (.int .i64 per) (by rw [HHD.out]; rfl), H2.out.hc 1 (.int .i64 now) (by rw [HHD.out]; rfl)⟩, fun hHeld => ?_⟩
    try simp only [Act.put, List.getElem_toArray, List.getElem_cons_succ, List.getElem_cons_zero, List.setIfInBounds_toArray, List.set_cons_zero, List.set_cons_succ]
    refine wpAnyH_done (by kernel_rfl) ?_ _
    refine NoPanic.normal ?_
    try simp only [Act.put, List.getElem_toArray, List.getElem_cons_succ, List.getElem_cons_zero, List.setIfInBounds_toArray, List.set_cons_zero, List.set_cons_succ]
    clear hHeld
    go_wp2_with ((with_reducible refine atC 157 ?_); refine wpList_storeC rfl 3 (.tmp 157) (.const (.int .i64 0)) rfl gr (o + 4) (.int .i64 0) (by rfl) (by rfl) rfl info3 64 _ H2.out.src (H2.out.lts (k := 4) (by decide)) ?_; intro X3 hb1 ht1; have H3 := Lib.hid (H2.out.put 4 (.int .i64 0) (by decide) { r with out := false, due := now + per, fails := 0 } rfl (fun h => h.like rfl rfl rfl) hb1 ht1); clear hb1 ht1)
    go_ret2
    exact RHQ.mk none 0 (HRH.out none 0) H3.out
  · have q5 : (bs r.etag).toList.isEmpty = false := by rw [bs_toList]; exact List.isEmpty_eq_false_iff.2 he
    clear htg he hnl0
    go_upto_region 16 with fail
    clear s5 s6
    have g0 := H1.out.hc 0 (.int .i64 per) (by rw [HHD.out]; rfl)
    have g1 := H1.out.hc 1 (.int .i64 now) (by rw [HHD.out]; rfl)
    refine wp_region_noPanic ?_
    refine wp_region_held_drew (S := (fun W => W.cell? ⟨g, 0, none⟩ = some (.int .i64 per) ∧ W.cell? ⟨g, 1, none⟩ = some (.int .i64 now))) (by kernel_rfl) (by exact ⟨g0, g1⟩) (fun hHeld => ?_)
    refine wpAnyH_take (i := 0) (v := ?v49) rfl (by kernel_rfl) (by kernel_rfl) (by kernel_rfl) (fun _ _ _ h => h) (Or.inl ⟨by kernel_rfl, ?y49⟩) (by assumption) ?t49
    case y49 => (intro w hSw; (try dsimp only at hSw); go_simp; try with_reducible rfl)
    try simp only [Act.put, List.getElem_toArray, List.getElem_cons_succ, List.getElem_cons_zero, List.setIfInBounds_toArray, List.set_cons_zero, List.set_cons_succ]
    refine wpAnyH_take (i := 1) (v := ?v50) rfl (by kernel_rfl) (by kernel_rfl) (by kernel_rfl) (fun _ _ _ h => h) (Or.inl ⟨by kernel_rfl, ?y50⟩) (by assumption) ?t50
    case y50 => (intro w hSw; (try dsimp only at hSw); go_simp; try with_reducible rfl)
    try simp only [Act.put, List.getElem_toArray, List.getElem_cons_succ, List.getElem_cons_zero, List.setIfInBounds_toArray, List.set_cons_zero, List.set_cons_succ]
    refine wpAnyH_take (i := 2) (v := ?v51) rfl (by kernel_rfl) (by kernel_rfl) (by kernel_rfl) (fun _ _ _ h => h) (Or.inl ⟨by kernel_rfl, ?y51⟩) (by assumption) ?t51
    case y51 => (intro w hSw; (try dsimp only at hSw); go_simp; try with_reducible rfl)
    try simp only [Act.put, List.getElem_toArray, List.getElem_cons_succ, List.getElem_cons_zero, List.setIfInBounds_toArray, List.set_cons_zero, List.set_cons_succ]
    refine wpAnyH_take (i := 3) (v := ?v52) rfl (by kernel_rfl) (by kernel_rfl) (by kernel_rfl) (fun _ _ _ h => h) (Or.inl ⟨by kernel_rfl, ?y52⟩) (by assumption) ?t52
    case y52 => (intro w hSw; (try dsimp only at hSw); go_simp; try with_reducible rfl)
    try simp only [Act.put, List.getElem_toArray, List.getElem_cons_succ, List.getElem_cons_zero, List.setIfInBounds_toArray, List.set_cons_zero, List.set_cons_succ]
    refine wpAnyH_take (i := 4) (v := ?v53) rfl (by kernel_rfl) (by kernel_rfl) (by kernel_rfl) (fun _ _ _ h => h) (Or.inl ⟨by kernel_rfl, ?y53⟩) (by assumption) ?t53
    case y53 => (intro w hSw; (try dsimp only at hSw); go_simp; try with_reducible rfl)
    try simp only [Act.put, List.getElem_toArray, List.getElem_cons_succ, List.getElem_cons_zero, List.setIfInBounds_toArray, List.set_cons_zero, List.set_cons_succ]
    refine wpAnyH_take (i := 5) (v := ?v54) rfl (by kernel_rfl) (by kernel_rfl) (by kernel_rfl) (fun _ _ _ h => h) (Or.inl ⟨by kernel_rfl, ?y54⟩) (by assumption) ?t54
    case y54 => (intro w hSw; (try dsimp only at hSw); go_simp; try with_reducible rfl)
    try simp only [Act.put, List.getElem_toArray, List.getElem_cons_succ, List.getElem_cons_zero, List.setIfInBounds_toArray, List.set_cons_zero, List.set_cons_succ]
    refine wpAnyH_take (i := 6) (v := ?v55) rfl (by kernel_rfl) (by kernel_rfl) (by kernel_rfl) (fun _ _ _ h => h) (Or.inl ⟨by kernel_rfl, ?y55⟩) (by assumption) ?t55
    case y55 => (intro w hSw; (try dsimp only at hSw); go_simp; try with_reducible rfl)
    try simp only [Act.put, List.getElem_toArray, List.getElem_cons_succ, List.getElem_cons_zero, List.setIfInBounds_toArray, List.set_cons_zero, List.set_cons_succ]
    refine wpAnyH_take (i := 7) (v := ?v56) rfl (by kernel_rfl) (by kernel_rfl) (by kernel_rfl) (fun _ _ _ h => h) (Or.inl ⟨by kernel_rfl, ?y56⟩) (by assumption) ?t56
    case y56 => (intro w hSw; (try dsimp only at hSw); go_simp; try with_reducible rfl)
    try simp only [Act.put, List.getElem_toArray, List.getElem_cons_succ, List.getElem_cons_zero, List.setIfInBounds_toArray, List.set_cons_zero, List.set_cons_succ]
    refine wpAnyH_take (i := 8) (v := ?v57) rfl (by kernel_rfl) (by kernel_rfl) (by kernel_rfl) (fun _ _ _ h => h) (Or.inl ⟨by kernel_rfl, ?y57⟩) (by assumption) ?t57
    case y57 => (intro w hSw; (try dsimp only at hSw); go_simp; try with_reducible rfl)
    try simp only [Act.put, List.getElem_toArray, List.getElem_cons_succ, List.getElem_cons_zero, List.setIfInBounds_toArray, List.set_cons_zero, List.set_cons_succ]
    refine wpAnyH_take (i := 9) (v := .int .i64 (now + per)) rfl (by kernel_rfl) (by kernel_rfl) (by kernel_rfl) (fun _ _ _ h => h) (Or.inl ⟨by kernel_rfl, ?y58⟩) (by assumption) ?_
    case y58 => (intro w hSw; (try dsimp only at hSw); go_simp; try with_reducible rfl)
    try simp only [Act.put, List.getElem_toArray, List.getElem_cons_succ, List.getElem_cons_zero, List.setIfInBounds_toArray, List.set_cons_zero, List.set_cons_succ]
    refine wpAnyH_take (i := 10) (v := ?v59) rfl (by kernel_rfl) (by kernel_rfl) (by kernel_rfl) (fun _ _ _ h => h) (Or.inl ⟨by kernel_rfl, ?y59⟩) (by assumption) ?t59
    case y59 => (intro w hSw; (try dsimp only at hSw); go_simp; try with_reducible rfl)
    try simp only [Act.put, List.getElem_toArray, List.getElem_cons_succ, List.getElem_cons_zero, List.setIfInBounds_toArray, List.set_cons_zero, List.set_cons_succ]
    refine wpAnyH_take (i := 11) (v := ?v60) rfl (by kernel_rfl) (by kernel_rfl) (by kernel_rfl) (fun _ _ _ h => h) (Or.inl ⟨by kernel_rfl, ?y60⟩) (by assumption) ?t60
    case y60 => (intro w hSw; (try dsimp only at hSw); go_simp; try with_reducible rfl)
    try simp only [Act.put, List.getElem_toArray, List.getElem_cons_succ, List.getElem_cons_zero, List.setIfInBounds_toArray, List.set_cons_zero, List.set_cons_succ]
    refine wpAnyH_storeC 12 rfl (by kernel_rfl) (by kernel_rfl) 3 (.tmp 154) (.tmp 152) rfl gr (o + 3) (.int .i64 (now + per)) (by rfl) (by rfl) rfl info3 64 _ H1.out.drew.src (H1.out.lts (by decide)) ?_
    intro X2 hb1 ht1
    have H2 := Lib.hid (H1.out.drew.put 3 (.int .i64 (now + per)) (by decide) { r with out := false, due := now + per } rfl (fun h => h.like rfl rfl rfl) hb1 ht1)
    clear hb1 ht1 g0 g1
    refine ⟨⟨H2.out.hc 0 (.int .i64 per) (by rw [HHD.out]; rfl), H2.out.hc 1 (.int .i64 now) (by rw [HHD.out]; rfl)⟩, fun hHeld => ?_⟩
    try simp only [Act.put, List.getElem_toArray, List.getElem_cons_succ, List.getElem_cons_zero, List.setIfInBounds_toArray, List.set_cons_zero, List.set_cons_succ]
    refine wpAnyH_done (by kernel_rfl) ?_ _
    refine NoPanic.normal ?_
    try simp only [Act.put, List.getElem_toArray, List.getElem_cons_succ, List.getElem_cons_zero, List.setIfInBounds_toArray, List.set_cons_zero, List.set_cons_succ]
    clear hHeld
    go_wp2_with ((with_reducible refine atC 157 ?_); refine wpList_storeC rfl 3 (.tmp 157) (.const (.int .i64 0)) rfl gr (o + 4) (.int .i64 0) (by rfl) (by rfl) rfl info3 64 _ H2.out.src (H2.out.lts (k := 4) (by decide)) ?_; intro X3 hb1 ht1; have H3 := Lib.hid (H2.out.put 4 (.int .i64 0) (by decide) { r with out := false, due := now + per, fails := 0 } rfl (fun h => h.like rfl rfl rfl) hb1 ht1); clear hb1 ht1)
    go_ret2
    exact RHQ.mk none 0 (HRH.out none 0) H3.out
end Go.Proofs.YtcpkkaimingnlaaGreatDoor
