/-
  The document's Tick.
-/
import Derived.Test.YtcpkkaimingnlaaGreatDoorFB
import Derived.Test.YtcpkkaimingnlaaGreatDoorRpv
set_option linter.unusedVariables false
set_option linter.unusedSimpArgs false
namespace Go.Proofs.YtcpkkaimingnlaaGreatDoor
open Go.RowKit

/-- What Tick's walk knows of memory. -/
structure RTK (w W : World) (P : Nat → Prop) (lo hi g : Nat) (A : Option Addr) (cap : Nat) (per now : Int) (rs : List RSrc) (v : Value) (l : List Ask) : Prop where
  own : AOwn W w.heap.size v l
  pol : RPol W P lo hi g A cap per now rs
  only : Only lo hi w W
  le : hi ≤ w.heap.size
section
variable {w W W1 : World} {P : Nat → Prop} {lo hi g : Nat} {A : Option Addr} {cap : Nat} {per now : Int} {rs : List RSrc} {v : Value} {l : List Ask}
theorem RTK.drewN (h : RTK w W P lo hi g A cap per now rs v l) (n : Nat) : RTK w (W.drewN n) P lo hi g A cap per now rs v l := ⟨own_drewN h.own n, h.pol.drewN n, h.only.drewN n, h.le⟩
theorem RTK.push (h : RTK w W P lo hi g A cap per now rs v l) (hP : ∀ b, P b → b < w.heap.size) {v' : Value} {l' : List Ask} (ho : AOwn W1 w.heap.size v' l') (hb : Below w.heap.size W W1) : RTK w W1 P lo hi g A cap per now rs v' l' :=
  ⟨ho, h.pol.keep (lo2 := w.heap.size) (hi2 := W.heap.size) ⟨hb.os, hb.tape, hb.output, hb.size, fun k hk hn => hb.block k (by omega)⟩ (.inl h.le) (fun b hb => .inl (hP b hb)), h.only.base rfl hb, h.le⟩
theorem RTK.to (h : RTK w W P lo hi g A cap per now rs v l) {rs' : List RSrc} {l' : List Ask} (h1 : rs = rs') (h2 : l = l') : RTK w W P lo hi g A cap per now rs' v l' := by subst h1 h2; exact h
theorem RTK.set (h : RTK w W P lo hi g A cap per now rs v l) {gr : Nat} {rs' : List RSrc} (hp : RPol W1 P lo hi g A cap per now rs') (ht : Turned W W1 gr) (h1 : lo ≤ gr) (h2 : gr < hi) : RTK w W1 P lo hi g A cap per now rs' v l :=
  ⟨h.own.turned ht (Nat.lt_of_lt_of_le h2 h.le), hp, h.only.turn ht h1 h2, h.le⟩
end
section
variable {w : World} {P : Nat → Prop} {lo hi g : Nat} {A : Option Addr} {cap : Nat} {per now : Int} {rs : List RSrc}
set_option maxHeartbeats 16000000 in
set_option maxRecDepth 100000 in
theorem rtick_any (h : RPol w P lo hi g A cap per now rs) (hP : ∀ b, P b → b < w.heap.size) (hnow : 0 ≤ now ∧ now ≤ 1000000000) (hn : rs.length ≤ 1000) :
    Calls Tryz.prog 31 #[ptr g] w fun e w' => (∃ v, e = .returned v ∧ AOwn w' w.heap.size v (asksP (now + 1) 0 (rs.map toS))) ∧ RPol w' P lo hi g A cap per (now + 1) (rs.map (rtickP (now + 1))) ∧ Only lo hi w w' := by
  obtain ⟨t, ht⟩ : ∃ t, t = now + 1 := ⟨_, rfl⟩
  have hv1 : IntKind.i64.wrap (now + 1) = t := by rw [ht]; exact IntWalk.i64_in _ (by omega)
  rw [← ht]
  have HP := Lib.hid hP
  have HPo := Lib.hid h
  have g1 := (blk_cell h.head 1).trans (show _ = some (.int .i64 now) from rfl)
  have hhd := h.head
  have hcap := h.hcap
  clear h hP
  unfold ptr
  clear ht
  go_enter Tryz.func31, Tryz.ntmps31
  go_upto_region 3 with (first | ((with_reducible refine atS 13 11 ?_); refine wpList_storeC rfl 3 (.tmp 13) (.tmp 11) rfl g 1 (.int .i64 t) (by rfl) (by rfl) rfl info3 62 _ hhd (by exact Nat.le_of_ble_eq_true rfl) ?_; intro W1 hb1 ht1; have H0 := Lib.hid (show RTK w W1 P lo hi g A cap per t rs (.slice none 0 0) [] from ⟨AOwn.nil, HPo.out.tick t hb1 ht1, Only.of_turned ht1 HPo.out.glo.1 HPo.out.glo.2, HPo.out.hB⟩); clear hb1 ht1))
  clear g1 hhd HPo
  have r2 := (blk_cell H0.out.pol.head 2).trans (show _ = some (.slice A rs.length cap) from rfl)
  obtain ⟨n, hnn⟩ : ∃ n, n = rs.length := ⟨_, rfl⟩
  rw [← hnn] at hn hcap r2
  have HN := Lib.hid hnn
  clear hnn hv1 hnow
  go_upto_block 1 with fail
  go_loopw [3, 19] (fun v i wr => ∃ j : Nat, i = .int .i64 (j : Int) ∧ j ≤ n ∧ Hid (RTK w wr P lo hi g A cap per t (midG (rtickP t) rs j) v (asksP t 0 ((rs.take j).map toS)))) (fun _ i _ => n - (intOf i).toNat)
  case atStart => exact ⟨0, rfl, Nat.zero_le _, H0⟩
  case round =>
    obtain ⟨j, rfl, hj, H⟩ := hrel
    clear H0 r2
    obtain ⟨Av, cv, hv, hcv, hcm, hAn⟩ := H.out.own.form
    have hol := asks_len t ((rs.take j).map toS) 0
    have hol2 : (asksP t 0 ((rs.take j).map toS)).length ≤ 1000 := by rw [List.length_map, List.length_take] at hol; omega
    clear hol hAn
    obtain ⟨L, hL⟩ : ∃ L, L = asksP t 0 ((rs.take j).map toS) := ⟨_, rfl⟩
    rw [← hL] at H hv hcv hol2
    have HL := Lib.hid hL
    clear hL
    subst hv
    by_cases hjn : j < n
    · have tj : decide ((j : Int) < (n : Int)) = true := by rw [decide_eq_true_eq]; omega
      have hjs : j < rs.length := by rw [← HN.out]; exact hjn
      have HA := Lib.hid (rasks_step t rs hjs)
      have HM := Lib.hid (midG_set (rtickP t) rs hjs)
      have HMS := Lib.hid (fun hh => midG_same (rtickP t) rs hjs hh)
      obtain ⟨gr, pre, post, hA, hpre, hgg, hlg, hgh, hblk, hled, hback⟩ := H.out.pol.view j (by rw [midG_len]; exact hjs)
      rw [midG_get (rtickP t) rs hjs] at hblk hled
      subst hA
      obtain ⟨r, hr⟩ : ∃ r, r = rs.getD j default := ⟨_, rfl⟩
      rw [← hr] at hblk hled HA HM HMS
      rw [← HL.out] at HA
      have HBK := Lib.hid hblk
      have HG := Lib.hid (show lo ≤ gr ∧ gr < hi from ⟨hlg, hgh⟩)
      have k2 := (blk_cell H.out.pol.head 2).trans (show _ = some (.slice (some ⟨gr, 0, none⟩) (midG (rtickP t) rs j).length cap) from rfl)
      rw [midG_len, ← HN.out] at k2
      have k1 := (blk_cell H.out.pol.head 1).trans (show _ = some (.int .i64 t) from rfl)
      have s7 := src_cell hblk hpre 7 (.bool r.out) rfl
      have s3 := src_cell hblk hpre 3 (.int .i64 r.due) rfl
      have HRD := Lib.hid hr
      obtain ⟨D, hD⟩ : ∃ D, D = dueP t (toS r) := ⟨_, rfl⟩
      rw [← hD] at HA
      have HD := Lib.hid hD
      clear hD hr hblk hled hback hjs hgg hlg hgh hpre
      go_upto_region 7 with fail
      go_cut [42] (fun v wx => v = .bool (!D) ∧ ∃ m, wx = wr.drewN m)
      case first =>
        as_aux_lemma =>
          have hd1 := HD.out
          unfold dueP at hd1
          clear HM HMS HA HD HBK
          have hd : D = (!r.out && decide (r.due ≤ t)) := hd1
          clear hd1
          cases hso : r.out with
          | true =>
            rw [hso] at s7 hd
            have HD2 := Lib.hid hd
            clear hd hso
            go_quiet (fail)
            go_wp2_with fail
            go_meet
            exact ⟨by rw [HD2.out]; rfl, _, rfl⟩
          | false =>
            rw [hso] at s7 hd
            have t1 : decide (r.due > t) = !D := by rw [hd]; by_cases h : r.due ≤ t <;> simp [h] <;> omega
            clear hd hso
            go_quiet (fail)
            go_wp2_with fail
            go_meet
            exact ⟨rfl, _, rfl⟩
      case rest =>
        as_aux_lemma =>
          obtain ⟨rfl, m, rfl⟩ := hcut
          have H2 := Lib.hid (H.out.drewN m)
          clear H k2 k1 s7 s3 HBK
          generalize wr.drewN m = wd at *
          cases D with
          | false =>
            have e : rtickP t r = r := by unfold rtickP; rw [← HD.out]; rfl
            have H3 := Lib.hid (H2.out.to (HMS.out e).symm (show L = asksP t 0 ((rs.take (j + 1)).map toS) by rw [HA.out]; simp))
            clear HMS HM HA H2 e
            go_wp2_with fail
            exact ⟨⟨j + 1, by go_num, by omega, H3⟩, by simp [intOf]; omega⟩
          | true =>
            have e1 := HM.out
            rw [show rtickP t r = { r with out := true } from by unfold rtickP; rw [← HD.out]; rfl] at e1
            have HM1 := Lib.hid e1
            have e2 := HA.out
            rw [if_pos rfl] at e2
            have HA1 := Lib.hid e2
            clear e1 e2 HM HA HMS HD
            have hjs : j < rs.length := by rw [← HN.out]; exact hjn
            obtain ⟨gr2, pre, post, hA2, hpre, hgg, hlg, hgh, hblk, hled, hback⟩ := H2.out.pol.view j (by rw [midG_len]; exact hjs)
            rw [midG_get (rtickP t) rs hjs, ← HRD.out] at hblk hled
            have hge : gr = gr2 := by injection hA2 with h; injection h
            subst hge
            have HBK := Lib.hid hblk
            have HO := Lib.hid (fun X hb ht => H2.out.pol.outs (X := X) hpre ⟨hlg, hgh⟩ hled hback hb ht)
            have HPre := Lib.hid hpre
            have HGL := Lib.hid (show gr < w.heap.size from Nat.lt_of_lt_of_le hgh H2.out.le)
            clear hjs hblk hled hback hgg hlg hgh hA2 hpre
            go_upto_region 9 with ((with_reducible refine atC 45 ?_); refine wpList_storeC rfl 4 (.tmp 45) (.const (.bool true)) rfl gr (j * 8 + 7) (.bool true) (by rfl) (by rfl) rfl info4 64 _ HBK.out (src_lt HPre.out (by decide)) ?_; intro X1 hb1 ht1; have ho1 := HO.out X1 hb1 ht1; rw [HM1.out] at ho1; have H3 := Lib.hid (H2.out.set ho1.1 ht1 HG.out.1 HG.out.2); have HL3 := Lib.hid ho1.2.1; have HB1 := Lib.hid ho1.2.2; clear hb1 ht1 ho1)
            clear H2 HBK HO HM1
            have s1 := src_cell HB1.out HPre.out 1 (.slice r.ledA r.led.length r.ledC) rfl
            obtain ⟨hl0, hlc⟩ := HL3.out
            have hl0 : r.led = [] ∨ ∃ b, r.ledA = some ⟨b, 0, none⟩ ∧ P b ∧ b < X1.heap.size ∧ ∀ j, j < r.led.length → X1.cell? ⟨b, j, none⟩ = some (.string (bs (r.led.getD j []))) := hl0
            have hlc : r.led.length ≤ r.ledC ∧ r.ledC ≤ 9223372036854775807 := hlc
            obtain ⟨nl, hnl⟩ : ∃ nl, nl = r.led.length := ⟨_, rfl⟩
            rw [← hnl] at s1 hl0 hlc
            by_cases hz : 0 < nl
            · have q1 : decide ((nl : Int) > 0) = true := decide_eq_true (by omega)
              have q2 : decide (0 < nl) = true := decide_eq_true hz
              have hv : IntKind.i64.wrap ((nl : Int) - 1) = ((nl - 1 : Nat) : Int) := by rw [IntWalk.i64_in _ (by omega)]; omega
              have hlt : nl - 1 < nl := by omega
              have ea := Lib.hid (show askP j (toS r) = ⟨j, r.led.getD (nl - 1) [], [], []⟩ by unfold askP; rw [if_pos (show 0 < (toS r).hops by show 0 < r.led.length; omega), hnl]; rfl)
              rw [ea.out] at HA1
              obtain ⟨b, hAl, hPb, hbX, hcl⟩ := hl0.resolve_left (fun e => by rw [hnl, e] at hz; cases hz)
              have hc1 := hcl (nl - 1) hlt
              rw [hAl] at s1
              clear hcl hAl ea hnl HL3
              generalize r.led.getD (nl - 1) [] = ls at *
              generalize nl - 1 = l1 at *
              have hA4 : (akc ⟨j, ls, [], []⟩).length = 4 := rfl
              have hsz : w.heap.size ≤ X1.heap.size := H3.out.only.size
              go_wp2_with (first | ((with_reducible refine atD 63 ?_); refine wpList_val rfl (.agg (akc ⟨j, ls, [], []⟩).toArray) (by go_simp; rfl) ?_) | (at_builtin; change wpList _ _ _ _ _ (X1.alloc (.cells (akc ⟨j, ls, [], []⟩).toArray 69)); refine wpList_pushA rfl (.tmp 53) (.tmp 64) rfl w.heap.size hsz L _ (by rfl) H3.out.own ⟨j, ls, [], []⟩ (by rfl) (by omega) ?_; intro A5 c5 w5 ho5 hb5; have H5 := Lib.hid ((H3.out.push HP.out ho5 hb5).to rfl HA1.out.symm); clear ho5 hb5))
              exact ⟨⟨j + 1, by go_num, by omega, H5⟩, by simp [intOf]; omega⟩
            · have q1 : decide ((nl : Int) > 0) = false := decide_eq_false (by omega)
              have q2 : decide (0 < nl) = false := decide_eq_false hz
              have ea := Lib.hid (show askP j (toS r) = ⟨j, r.own, r.etag, r.mod⟩ by unfold askP; rw [if_neg (show ¬ 0 < (toS r).hops by show ¬ 0 < r.led.length; omega)]; rfl)
              rw [ea.out] at HA1
              clear hl0 hnl HL3
              have hsz : w.heap.size ≤ X1.heap.size := H3.out.only.size
              go_upto_region 12 with fail
              clear q1 q2 s1
              refine wp_region_noPanic ?_
              refine wp_region_held_drew (S := (fun W => W.cell? ⟨gr, j * 8, none⟩ = some (.string (bs r.own)) ∧ W.cell? ⟨gr, j * 8 + 5, none⟩ = some (.string (bs r.etag)) ∧ W.cell? ⟨gr, j * 8 + 6, none⟩ = some (.string (bs r.mod)))) (by kernel_rfl) (by exact ⟨src_cell (blk_drew HB1.out) HPre.out 0 _ rfl, src_cell (blk_drew HB1.out) HPre.out 5 _ rfl, src_cell (blk_drew HB1.out) HPre.out 6 _ rfl⟩) (fun hHeld => ?_)
              refine wpAnyH_take (i := 0) (v := ?v1) rfl (by kernel_rfl) (by kernel_rfl) (by kernel_rfl) (fun _ _ _ h => h) (Or.inl ⟨by kernel_rfl, ?y1⟩) (by assumption) ?t1
              case y1 => (intro w hSw; (try dsimp only at hSw); go_simp; try with_reducible rfl)
              try simp only [Act.put, List.getElem_toArray, List.getElem_cons_succ, List.getElem_cons_zero, List.setIfInBounds_toArray, List.set_cons_zero, List.set_cons_succ]
              refine wpAnyH_take (i := 1) (v := ?v2) rfl (by kernel_rfl) (by kernel_rfl) (by kernel_rfl) (fun _ _ _ h => h) (Or.inl ⟨by kernel_rfl, ?y2⟩) (by assumption) ?t2
              case y2 => (intro w hSw; (try dsimp only at hSw); go_simp; try with_reducible rfl)
              try simp only [Act.put, List.getElem_toArray, List.getElem_cons_succ, List.getElem_cons_zero, List.setIfInBounds_toArray, List.set_cons_zero, List.set_cons_succ]
              refine wpAnyH_take (i := 2) (v := ?v3) rfl (by kernel_rfl) (by kernel_rfl) (by kernel_rfl) (fun _ _ _ h => h) (Or.inl ⟨by kernel_rfl, ?y3⟩) (by assumption) ?t3
              case y3 => (intro w hSw; (try dsimp only at hSw); go_simp; try with_reducible rfl)
              try simp only [Act.put, List.getElem_toArray, List.getElem_cons_succ, List.getElem_cons_zero, List.setIfInBounds_toArray, List.set_cons_zero, List.set_cons_succ]
              refine wpAnyH_take (i := 3) (v := ?v4) rfl (by kernel_rfl) (by kernel_rfl) (by kernel_rfl) (fun _ _ _ h => h) (Or.inl ⟨by kernel_rfl, ?y4⟩) (by assumption) ?t4
              case y4 => (intro w hSw; (try dsimp only at hSw); go_simp; try with_reducible rfl)
              try simp only [Act.put, List.getElem_toArray, List.getElem_cons_succ, List.getElem_cons_zero, List.setIfInBounds_toArray, List.set_cons_zero, List.set_cons_succ]
              refine wpAnyH_take (i := 4) (v := ?v5) rfl (by kernel_rfl) (by kernel_rfl) (by kernel_rfl) (fun _ _ _ h => h) (Or.inl ⟨by kernel_rfl, ?y5⟩) (by assumption) ?t5
              case y5 => (intro w hSw; (try dsimp only at hSw); go_simp; try with_reducible rfl)
              try simp only [Act.put, List.getElem_toArray, List.getElem_cons_succ, List.getElem_cons_zero, List.setIfInBounds_toArray, List.set_cons_zero, List.set_cons_succ]
              refine wpAnyH_take (i := 5) (v := ?v6) rfl (by kernel_rfl) (by kernel_rfl) (by kernel_rfl) (fun _ _ _ h => h) (Or.inl ⟨by kernel_rfl, ?y6⟩) (by assumption) ?t6
              case y6 => (intro w hSw; (try dsimp only at hSw); go_simp; try with_reducible rfl)
              try simp only [Act.put, List.getElem_toArray, List.getElem_cons_succ, List.getElem_cons_zero, List.setIfInBounds_toArray, List.set_cons_zero, List.set_cons_succ]
              refine wpAnyH_take (i := 6) (v := ?v7) rfl (by kernel_rfl) (by kernel_rfl) (by kernel_rfl) (fun _ _ _ h => h) (Or.inl ⟨by kernel_rfl, ?y7⟩) (by assumption) ?t7
              case y7 => (intro w hSw; (try dsimp only at hSw); go_simp; try with_reducible rfl)
              try simp only [Act.put, List.getElem_toArray, List.getElem_cons_succ, List.getElem_cons_zero, List.setIfInBounds_toArray, List.set_cons_zero, List.set_cons_succ]
              refine wpAnyH_take (i := 7) (v := ?v8) rfl (by kernel_rfl) (by kernel_rfl) (by kernel_rfl) (fun _ _ _ h => h) (Or.inl ⟨by kernel_rfl, ?y8⟩) (by assumption) ?t8
              case y8 => (intro w hSw; (try dsimp only at hSw); go_simp; try with_reducible rfl)
              try simp only [Act.put, List.getElem_toArray, List.getElem_cons_succ, List.getElem_cons_zero, List.setIfInBounds_toArray, List.set_cons_zero, List.set_cons_succ]
              refine wpAnyH_take (i := 8) (v := ?v9) rfl (by kernel_rfl) (by kernel_rfl) (by kernel_rfl) (fun _ _ _ h => h) (Or.inl ⟨by kernel_rfl, ?y9⟩) (by assumption) ?t9
              case y9 => (intro w hSw; (try dsimp only at hSw); go_simp; try with_reducible rfl)
              try simp only [Act.put, List.getElem_toArray, List.getElem_cons_succ, List.getElem_cons_zero, List.setIfInBounds_toArray, List.set_cons_zero, List.set_cons_succ]
              refine wpAnyH_take (i := 9) (v := ?v10) rfl (by kernel_rfl) (by kernel_rfl) (by kernel_rfl) (fun _ _ _ h => h) (Or.inl ⟨by kernel_rfl, ?y10⟩) (by assumption) ?t10
              case y10 => (intro w hSw; (try dsimp only at hSw); go_simp; try with_reducible rfl)
              try simp only [Act.put, List.getElem_toArray, List.getElem_cons_succ, List.getElem_cons_zero, List.setIfInBounds_toArray, List.set_cons_zero, List.set_cons_succ]
              refine wpAnyH_take (i := 10) (v := ?v11) rfl (by kernel_rfl) (by kernel_rfl) (by kernel_rfl) (fun _ _ _ h => h) (Or.inl ⟨by kernel_rfl, ?y11⟩) (by assumption) ?t11
              case y11 => (intro w hSw; (try dsimp only at hSw); go_simp; try with_reducible rfl)
              try simp only [Act.put, List.getElem_toArray, List.getElem_cons_succ, List.getElem_cons_zero, List.setIfInBounds_toArray, List.set_cons_zero, List.set_cons_succ]
              refine wpAnyH_take (i := 11) (v := ?v12) rfl (by kernel_rfl) (by kernel_rfl) (by kernel_rfl) (fun _ _ _ h => h) (Or.inl ⟨by kernel_rfl, ?y12⟩) (by assumption) ?t12
              case y12 => (intro w hSw; (try dsimp only at hSw); go_simp; try with_reducible rfl)
              try simp only [Act.put, List.getElem_toArray, List.getElem_cons_succ, List.getElem_cons_zero, List.setIfInBounds_toArray, List.set_cons_zero, List.set_cons_succ]
              refine wpAnyH_take (i := 12) (v := ?v13) rfl (by kernel_rfl) (by kernel_rfl) (by kernel_rfl) (fun _ _ _ h => h) (Or.inl ⟨by kernel_rfl, ?y13⟩) (by assumption) ?t13
              case y13 => (intro w hSw; (try dsimp only at hSw); go_simp; try with_reducible rfl)
              try simp only [Act.put, List.getElem_toArray, List.getElem_cons_succ, List.getElem_cons_zero, List.setIfInBounds_toArray, List.set_cons_zero, List.set_cons_succ]
              refine wpAnyH_take (i := 13) (v := ?v14) rfl (by kernel_rfl) (by kernel_rfl) (by kernel_rfl) (fun _ _ _ h => h) (Or.inl ⟨by kernel_rfl, ?y14⟩) (by assumption) ?t14
              case y14 => (intro w hSw; (try dsimp only at hSw); go_simp; try with_reducible rfl)
              try simp only [Act.put, List.getElem_toArray, List.getElem_cons_succ, List.getElem_cons_zero, List.setIfInBounds_toArray, List.set_cons_zero, List.set_cons_succ]
              refine wpAnyH_take (i := 14) (v := .agg (akc ⟨j, r.own, r.etag, r.mod⟩).toArray) rfl (by kernel_rfl) (by kernel_rfl) (by kernel_rfl) (fun _ _ _ h => h) (Or.inl ⟨by kernel_rfl, ?y15⟩) (by assumption) ?_
              case y15 => (intro w hSw; (try dsimp only at hSw); go_simp; try rfl)
              try simp only [Act.put, List.getElem_toArray, List.getElem_cons_succ, List.getElem_cons_zero, List.setIfInBounds_toArray, List.set_cons_zero, List.set_cons_succ]
              refine wpAnyH_ready (rs := [15]) (by kernel_rfl) (by simp) ?_
              refine AllReadyH.cons rfl (fun KX hKX => ?_) AllReadyH.nil
              rw [if_pos (by kernel_rfl)]
              refine wp_ran2 (run_bs53 (.tmp 80) rfl rfl) (hKX.out _ _ (by exact ⟨src_cell (blk_alloc (blk_drew HB1.out) _) HPre.out 0 _ rfl, src_cell (blk_alloc (blk_drew HB1.out) _) HPre.out 5 _ rfl, src_cell (blk_alloc (blk_drew HB1.out) _) HPre.out 6 _ rfl⟩) (fun hHeld => ?_))
              clear hKX KX
              try simp only [Act.put, List.getElem_toArray, List.getElem_cons_succ, List.getElem_cons_zero, List.setIfInBounds_toArray, List.set_cons_zero, List.set_cons_succ]
              refine wpAnyH_ready (rs := [16]) (by kernel_rfl) (by simp) ?_
              refine AllReadyH.cons rfl (fun KX hKX => ?_) AllReadyH.nil
              refine step_push rfl (.tmp 66) (.tmp 81) 53 rfl w.heap.size 69 _ 4 56 Tryz.underlying53 infoA rfl (by decide) (.slice Av L.length cv) L.length _ (by rfl) (World.ownsRow.alloc (own_drew H3.out.own) _) X1.heap.size (akc ⟨j, r.own, r.etag, r.mod⟩) 1 (by decide) (by rfl) (blk_new X1.drew 69 (akc ⟨j, r.own, r.etag, r.mod⟩).toArray) rfl rfl (by omega) (by omega) (by simp; omega) ?_
              intro g5 c5 w5 ho5 _ hb5 _
              have hb6 : Below w.heap.size X1 w5 := (Below.refl _ X1).drew.trans (((Below.refl w.heap.size X1.drew).alloc hsz _).trans hb5)
              refine hKX.out _ _ (by exact ⟨src_cell (blk_base HB1.out hb6 HGL.out) HPre.out 0 _ rfl, src_cell (blk_base HB1.out hb6 HGL.out) HPre.out 5 _ rfl, src_cell (blk_base HB1.out hb6 HGL.out) HPre.out 6 _ rfl⟩) (fun hHeld => ?_)
              clear hKX KX
              have ho6 : AOwn w5 w.heap.size (.slice (some ⟨g5, 0, none⟩) (L.length + 1) c5) (L ++ [⟨j, r.own, r.etag, r.mod⟩]) := by unfold AOwn; rw [List.length_append, akc_snoc]; exact ho5
              have H5 := Lib.hid ((H3.out.push HP.out ho6 hb6).to rfl HA1.out.symm)
              clear ho5 hb5 ho6 hb6
              try simp only [Act.put, List.getElem_toArray, List.getElem_cons_succ, List.getElem_cons_zero, List.setIfInBounds_toArray, List.set_cons_zero, List.set_cons_succ]
              refine wpAnyH_take (i := 17) (v := ?v16) rfl (by kernel_rfl) (by kernel_rfl) (by kernel_rfl) (fun _ _ _ h => h) (Or.inl ⟨by kernel_rfl, ?y16⟩) (by assumption) ?t16
              case y16 => (intro w hSw; (try dsimp only at hSw); go_simp; try with_reducible rfl)
              try simp only [Act.put, List.getElem_toArray, List.getElem_cons_succ, List.getElem_cons_zero, List.setIfInBounds_toArray, List.set_cons_zero, List.set_cons_succ]
              refine wpAnyH_done (by kernel_rfl) ?_ _
              refine NoPanic.normal ?_
              try simp only [Act.put, List.getElem_toArray, List.getElem_cons_succ, List.getElem_cons_zero, List.setIfInBounds_toArray, List.set_cons_zero, List.set_cons_succ]
              clear hHeld HB1
              go_wp2_with fail
              exact ⟨⟨j + 1, by go_num, by omega, H5⟩, by simp [intOf]; omega⟩
    · have tj : decide ((j : Int) < (n : Int)) = false := by rw [decide_eq_false_iff_not]; omega
      have hjs : j = rs.length := by rw [← HN.out]; omega
      have H3 := Lib.hid (H.out.to (midG_end (rtickP t) rs hjs) (show L = asksP t 0 (rs.map toS) by rw [HL.out, hjs, List.take_length]))
      clear H HL hjs
      go_wp2_with fail
      go_ret
      exact ⟨⟨_, rfl, H3.out.own⟩, H3.out.pol, H3.out.only⟩
end
end Go.Proofs.YtcpkkaimingnlaaGreatDoor
