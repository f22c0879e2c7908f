/-
  The depth of parts, walked: the program's and the document's.
-/
import Derived.Deep.RegionHeld3
import Derived.Deep.DrawnRows
import Derived.BigQuiet
import Derived.RegionTactic
import Derived.BigRegion
import Derived.IntWalk
import Derived.Test.YthilkpjdfjjikaaDoorTrdM
set_option linter.unusedVariables false
set_option linter.unusedSimpArgs false
namespace Go.Proofs.YthilkpjdfjjikaaDoor
open Go.RowKit
attribute [local go_sem ↓] Go.wp_at_zero Go.wp_at_succ

theorem VRd.part {w : World} {P : Nat → Prop} {A : Option Addr} {n c : Nat} {ps : List Part} (hn : n = ps.length) (h : VRd w P (.slice A n c) ps) (j : Nat) (hj : j < n) :
    ∃ b off p ks os Av cv Ak ck Ao co, A = some ⟨b, off, none⟩ ∧ P b ∧ ps[j]? = some (.mk p ks os) ∧ (∀ k, k < 8 → w.cell? ⟨b, off + j * 8 + k, none⟩ = (ptc p (.slice Av p.path.length cv) (.slice Ak ks.length ck) (.slice Ao os.length co))[k]?) ∧ PathRd w P (.slice Av p.path.length cv) p.path ∧ VRd w P (.slice Ak ks.length ck) ks ∧ VRd w P (.slice Ao os.length co) os := by
  subst hn
  obtain ⟨A', c', e, hc, h3⟩ := h
  injection e with e1 e2 e3
  subst e1
  rcases h3 with rfl | ⟨b, o, h4, h5, h6⟩
  · exact absurd hj (by simp)
  · obtain ⟨q, hq⟩ : ∃ q, ps[j]? = some q := ⟨ps[j], List.getElem?_eq_getElem hj⟩
    have := LsRd.at_ ps b o j q h6 hq
    cases q with
    | mk p ks os =>
      unfold PtRd at this
      obtain ⟨v, Ak, ck, Ao, co, h7, h8, h9, h10, h11, h12⟩ := this
      have h8' := h8
      obtain ⟨Av, cv, rfl, _, _⟩ := h8'
      exact ⟨b, o, p, ks, os, Av, cv, Ak, ck, Ao, co, h4, h5, hq, h7, h8, ⟨Ak, ck, rfl, h9, h11⟩, ⟨Ao, co, rfl, h10, h12⟩⟩
theorem below_step {W W' w5 : World} (h : Below W.heap.size W W') (h5 : Below W'.heap.size W' w5) : Below W.heap.size W w5 := h.trans (h5.mono h.size)
set_option maxHeartbeats 8000000 in
set_option maxRecDepth 100000 in
theorem depth_any : ∀ (N : Nat) (ps : List Part) (P : Nat → Prop) (v : Value) (w : World), sizes ps < N → N ≤ 100000000000000000 → VRd w P v ps → (∀ b, P b → b < w.heap.size) →
    Calls Tryd.prog 21 #[v] w fun e w' => e = .returned (.int .i64 ((deps ps : Nat) : Int)) ∧ Below w.heap.size w w' := by
  intro N
  induction N with
  | zero => intro ps P v w h; exact absurd h (Nat.not_lt_zero _)
  | succ N ih =>
    intro ps P v w hN hN2 h hP
    have hrd := h
    obtain ⟨A, c, rfl, hc, _⟩ := h
    have hlen := sizes_len ps
    have HP := Lib.hid hP; have HI := Lib.hid ih
    obtain ⟨R, hR⟩ : ∃ R, R = deps ps := ⟨_, rfl⟩
    rw [← hR]
    have HR := Lib.hid hR
    obtain ⟨n, hn⟩ : ∃ n, n = ps.length := ⟨_, rfl⟩
    rw [← hn] at hc hlen hrd ⊢
    have Hn := Lib.hid hn; have H := Lib.hid hrd
    clear hP ih hR hn hrd
    go_enter Tryd.func21, Tryd.ntmps21
    go_wp2_with fail
    go_loopw [3, 8] (fun m i wr => ∃ j : Nat, i = .int .i64 (j : Int) ∧ j ≤ n ∧ m = .int .i64 ((deps (ps.take j) : Nat) : Int) ∧ Below w.heap.size w wr) (fun _ i _ => n - (intOf i).toNat)
    case atStart => exact ⟨0, rfl, Nat.zero_le _, by rw [List.take_zero]; rfl, Below.refl _ _⟩
    case round =>
      obtain ⟨j, rfl, hj, rfl, hbr⟩ := hrel
      have hbs := hbr.size
      by_cases hjn : j < n
      · have tj : decide ((j : Int) < (n : Int)) = true := by rw [decide_eq_true_eq]; omega
        obtain ⟨b, off, p, ks, os, Av, cv, Ak, ck, Ao, co, rfl, hb, hq, hcell, _, hks, hos⟩ := (H.out.below hbr HP.out).part Hn.out j hjn
        have hb := HP.out b hb
        have hsz := sizes_at ps j _ hq
        have hsn := deps_snoc ps j _ hq
        simp only [Part.size] at hsz
        have hd0 : deps (ps.take j) ≤ 100000000000000000 := by
          have h1 := deps_append (ps.take j) (ps.drop j)
          rw [List.take_append_drop] at h1
          have h2 := deps_size ps
          omega
        have hd1 := deps_size ks
        have hd2 := deps_size os
        have HSN := Lib.hid hsn
        have e0 := hcell 0 (by decide); have e1 := hcell 1 (by decide); have e2 := hcell 2 (by decide); have e3 := hcell 3 (by decide); have e4 := hcell 4 (by decide); have e5 := hcell 5 (by decide); have e6 := hcell 6 (by decide); have e7 := hcell 7 (by decide)
        simp only [ptc, List.getElem?_cons_zero, List.getElem?_cons_succ, Nat.add_zero] at e0 e1 e2 e3 e4 e5 e6 e7
        have HBR := Lib.hid hbr
        have HKS := Lib.hid hks; have HOS := Lib.hid hos
        clear hcell hbr hks hos hsn hq
        obtain ⟨D, hD⟩ : ∃ D, D = deps (ps.take j) := ⟨_, rfl⟩
        rw [← hD] at hd0 HSN ⊢
        clear hD
        have hg := blk_new wr 74 #[.int .i64 p.kind, .int .i64 p.pos, .string (bs p.text), .slice Av p.path.length cv, .string (bs p.name), .int .i64 p.place, .slice Ak ks.length ck, .slice Ao os.length co]
        go_upto_region 5 with fail
        have hB1 : Below w.heap.size w (wr.alloc (.cells #[.int .i64 p.kind, .int .i64 p.pos, .string (bs p.text), .slice Av p.path.length cv, .string (bs p.name), .int .i64 p.place, .slice Ak ks.length ck, .slice Ao os.length co] 74)) := HBR.out.alloc hbs _
        have hbw : Below wr.heap.size wr (wr.alloc (.cells #[.int .i64 p.kind, .int .i64 p.pos, .string (bs p.text), .slice Av p.path.length cv, .string (bs p.name), .int .i64 p.place, .slice Ak ks.length ck, .slice Ao os.length co] 74)) := (Below.refl _ wr).alloc (Nat.le_refl _) _
        have hPr : ∀ b, P b → b < wr.heap.size := fun b h => Nat.lt_of_lt_of_le (HP.out b h) hbs
        have hks2 := HKS.out.below hbw hPr
        have hos2 := HOS.out.below hbw hPr
        have hsw := hbw.size
        obtain ⟨W, hW⟩ : ∃ W, W = wr.alloc (.cells #[.int .i64 p.kind, .int .i64 p.pos, .string (bs p.text), .slice Av p.path.length cv, .string (bs p.name), .int .i64 p.place, .slice Ak ks.length ck, .slice Ao os.length co] 74) := ⟨_, rfl⟩
        rw [← hW] at hg hB1 hks2 hos2 hsw ⊢
        have hPW : ∀ b, P b → b < W.heap.size := fun b h => Nat.lt_of_lt_of_le (hPr b h) hsw
        have HK : Hid (∀ W', Below W.heap.size W W' → Calls Tryd.prog 21 #[.slice Ak ks.length ck] W' fun e w' => e = .returned (.int .i64 ((deps ks : Nat) : Int)) ∧ Below W'.heap.size W' w') :=
          fun W' hb => HI.out ks P _ W' (by omega) (by omega) (hks2.below hb hPW) (fun b h => Nat.lt_of_lt_of_le (hPW b h) hb.size)
        have HO : Hid (∀ W', Below W.heap.size W W' → Calls Tryd.prog 21 #[.slice Ao os.length co] W' fun e w' => e = .returned (.int .i64 ((deps os : Nat) : Int)) ∧ Below W'.heap.size W' w') :=
          fun W' hb => HI.out os P _ W' (by omega) (by omega) (hos2.below hb hPW) (fun b h => Nat.lt_of_lt_of_le (hPW b h) hb.size)
        clear hks2 hos2 hPr hPW hbw
        obtain ⟨g, hge⟩ : ∃ g, g = wr.heap.size := ⟨_, rfl⟩
        rw [← hge] at hg ⊢
        clear e0 e1 e2 e3 e4 e5 e6 e7 hW hge
        have e0 := blk_cell hg 0; have e6 := blk_cell hg 6; have e7 := blk_cell hg 7
        simp only [List.getElem?_cons_zero, List.getElem?_cons_succ] at e0 e6 e7
        have HG := Lib.hid hg; have HB1 := Lib.hid hB1
        clear hg hB1
        obtain ⟨kd, hkd⟩ : ∃ kd, kd = p.kind := ⟨_, rfl⟩
        rw [← hkd] at e0
        have HKD := Lib.hid hkd
        clear hkd
        have hgW : g < W.heap.size := blk_lt HG.out
        by_cases hK : kd = 3 ∨ kd = 4
        · have hdq : (Part.mk p ks os).dep = 1 + max (deps ks) (deps os) := by
            rw [Part.dep, ← HKD.out, if_pos (by rcases hK with h | h <;> rw [h] <;> rfl)]
          rw [hdq] at HSN
          clear hdq HKD
          generalize deps ks = dk at *
          generalize deps os = dn at *
          rcases hK with rfl | rfl
          all_goals
            have hBd : Below W.heap.size W W.drew := (Below.refl _ W).drew
            go_wp2_with fail
            go_region_held3 (fun w' => Below W.heap.size W w' ∧ w'.cell? ⟨g, 6, none⟩ = some (.slice Ak ks.length ck) ∧ w'.cell? ⟨g, 7, none⟩ = some (.slice Ao os.length co)) (go_keep) ((go_at_call 21; first | ((with_reducible refine (HK.out _ ?_).mono ?_); (focus assumption); rintro e w5 ⟨rfl, hb5⟩; have hbk := below_step (by assumption) hb5; have hg5 := blk_below HG.out hbk hgW; have k6 := blk_cell hg5 6; have k7 := blk_cell hg5 7; simp only [List.getElem?_cons_zero, List.getElem?_cons_succ] at k6 k7; clear hb5) | ((with_reducible refine (HO.out _ ?_).mono ?_); (focus assumption); rintro e w6 ⟨rfl, hb6⟩; have hbk := below_step (by assumption) hb6; have hg6 := blk_below HG.out hbk hgW; have k6 := blk_cell hg6 6; have k7 := blk_cell hg6 7; simp only [List.getElem?_cons_zero, List.getElem?_cons_succ] at k6 k7; clear hb6)))
            all_goals go_wp2_with fail
            all_goals refine ⟨⟨j + 1, by go_num, by omega, ?_, HB1.out.trans (hbk.mono HB1.out.size)⟩, by simp [intOf]; omega⟩
            all_goals rw [HSN.out, IntWalk.i64_in _ (by omega)]
            all_goals congr 1
            all_goals omega
        · have hdq : (Part.mk p ks os).dep = 0 := by
            rw [Part.dep, ← HKD.out, if_neg (by intro h; rw [Bool.or_eq_true, beq_iff_eq, beq_iff_eq] at h; exact hK h)]
          rw [hdq] at HSN
          have k3 : (kd == 3) = false := by rw [beq_eq_false_iff_ne]; exact fun h => hK (.inl h)
          have k4 : (kd == 4) = false := by rw [beq_eq_false_iff_ne]; exact fun h => hK (.inr h)
          clear hdq HKD hK
          go_wp2_with fail
          refine ⟨⟨j + 1, by go_num, by omega, ?_, HB1.out⟩, by simp [intOf]; omega⟩
          rw [HSN.out, Nat.max_zero]
      · obtain rfl : j = n := by omega
        have tj : decide ((j : Int) < (j : Int)) = false := by rw [decide_eq_false_iff_not]; omega
        have hr : deps (ps.take j) = R := by rw [HR.out, List.take_of_length_le (by rw [← Hn.out]; exact Nat.le_refl _)]
        rw [hr]
        clear hr
        go_wp2_with fail
        go_ret
        exact ⟨rfl, hbr⟩
set_option maxHeartbeats 8000000 in
set_option maxRecDepth 100000 in
theorem depthR_any : ∀ (N : Nat) (ps : List Part) (P : Nat → Prop) (v : Value) (w : World), sizes ps < N → N ≤ 100000000000000000 → VRd w P v ps → (∀ b, P b → b < w.heap.size) →
    Calls Tryd.prog 25 #[v] w fun e w' => e = .returned (.int .i64 ((deps ps : Nat) : Int)) ∧ Below w.heap.size w w' := by
  intro N
  induction N with
  | zero => intro ps P v w h; exact absurd h (Nat.not_lt_zero _)
  | succ N ih =>
    intro ps P v w hN hN2 h hP
    have hrd := h
    obtain ⟨A, c, rfl, hc, _⟩ := h
    have hlen := sizes_len ps
    have HP := Lib.hid hP; have HI := Lib.hid ih
    obtain ⟨R, hR⟩ : ∃ R, R = deps ps := ⟨_, rfl⟩
    rw [← hR]
    have HR := Lib.hid hR
    obtain ⟨n, hn⟩ : ∃ n, n = ps.length := ⟨_, rfl⟩
    rw [← hn] at hc hlen hrd ⊢
    have Hn := Lib.hid hn; have H := Lib.hid hrd
    clear hP ih hR hn hrd
    go_enter Tryd.func25, Tryd.ntmps25
    go_wp2_with fail
    go_loopw [3, 8] (fun m i wr => ∃ j : Nat, i = .int .i64 (j : Int) ∧ j ≤ n ∧ m = .int .i64 ((deps (ps.take j) : Nat) : Int) ∧ Below w.heap.size w wr) (fun _ i _ => n - (intOf i).toNat)
    case atStart => exact ⟨0, rfl, Nat.zero_le _, by rw [List.take_zero]; rfl, Below.refl _ _⟩
    case round =>
      obtain ⟨j, rfl, hj, rfl, hbr⟩ := hrel
      have hbs := hbr.size
      by_cases hjn : j < n
      · have tj : decide ((j : Int) < (n : Int)) = true := by rw [decide_eq_true_eq]; omega
        obtain ⟨b, off, p, ks, os, Av, cv, Ak, ck, Ao, co, rfl, hb, hq, hcell, _, hks, hos⟩ := (H.out.below hbr HP.out).part Hn.out j hjn
        have hb := HP.out b hb
        have hsz := sizes_at ps j _ hq
        have hsn := deps_snoc ps j _ hq
        simp only [Part.size] at hsz
        have hd0 : deps (ps.take j) ≤ 100000000000000000 := by
          have h1 := deps_append (ps.take j) (ps.drop j)
          rw [List.take_append_drop] at h1
          have h2 := deps_size ps
          omega
        have hd1 := deps_size ks
        have hd2 := deps_size os
        have HSN := Lib.hid hsn
        have e0 := hcell 0 (by decide); have e1 := hcell 1 (by decide); have e2 := hcell 2 (by decide); have e3 := hcell 3 (by decide); have e4 := hcell 4 (by decide); have e5 := hcell 5 (by decide); have e6 := hcell 6 (by decide); have e7 := hcell 7 (by decide)
        simp only [ptc, List.getElem?_cons_zero, List.getElem?_cons_succ, Nat.add_zero] at e0 e1 e2 e3 e4 e5 e6 e7
        have HBR := Lib.hid hbr
        have HKS := Lib.hid hks; have HOS := Lib.hid hos
        clear hcell hbr hks hos hsn hq
        obtain ⟨D, hD⟩ : ∃ D, D = deps (ps.take j) := ⟨_, rfl⟩
        rw [← hD] at hd0 HSN ⊢
        clear hD
        have hg := blk_new wr 74 #[.int .i64 p.kind, .int .i64 p.pos, .string (bs p.text), .slice Av p.path.length cv, .string (bs p.name), .int .i64 p.place, .slice Ak ks.length ck, .slice Ao os.length co]
        go_upto_region 5 with fail
        have hB1 : Below w.heap.size w (wr.alloc (.cells #[.int .i64 p.kind, .int .i64 p.pos, .string (bs p.text), .slice Av p.path.length cv, .string (bs p.name), .int .i64 p.place, .slice Ak ks.length ck, .slice Ao os.length co] 74)) := HBR.out.alloc hbs _
        have hbw : Below wr.heap.size wr (wr.alloc (.cells #[.int .i64 p.kind, .int .i64 p.pos, .string (bs p.text), .slice Av p.path.length cv, .string (bs p.name), .int .i64 p.place, .slice Ak ks.length ck, .slice Ao os.length co] 74)) := (Below.refl _ wr).alloc (Nat.le_refl _) _
        have hPr : ∀ b, P b → b < wr.heap.size := fun b h => Nat.lt_of_lt_of_le (HP.out b h) hbs
        have hks2 := HKS.out.below hbw hPr
        have hos2 := HOS.out.below hbw hPr
        have hsw := hbw.size
        obtain ⟨W, hW⟩ : ∃ W, W = wr.alloc (.cells #[.int .i64 p.kind, .int .i64 p.pos, .string (bs p.text), .slice Av p.path.length cv, .string (bs p.name), .int .i64 p.place, .slice Ak ks.length ck, .slice Ao os.length co] 74) := ⟨_, rfl⟩
        rw [← hW] at hg hB1 hks2 hos2 hsw ⊢
        have hPW : ∀ b, P b → b < W.heap.size := fun b h => Nat.lt_of_lt_of_le (hPr b h) hsw
        have HK : Hid (∀ W', Below W.heap.size W W' → Calls Tryd.prog 25 #[.slice Ak ks.length ck] W' fun e w' => e = .returned (.int .i64 ((deps ks : Nat) : Int)) ∧ Below W'.heap.size W' w') :=
          fun W' hb => HI.out ks P _ W' (by omega) (by omega) (hks2.below hb hPW) (fun b h => Nat.lt_of_lt_of_le (hPW b h) hb.size)
        have HO : Hid (∀ W', Below W.heap.size W W' → Calls Tryd.prog 25 #[.slice Ao os.length co] W' fun e w' => e = .returned (.int .i64 ((deps os : Nat) : Int)) ∧ Below W'.heap.size W' w') :=
          fun W' hb => HI.out os P _ W' (by omega) (by omega) (hos2.below hb hPW) (fun b h => Nat.lt_of_lt_of_le (hPW b h) hb.size)
        clear hks2 hos2 hPr hPW hbw
        obtain ⟨g, hge⟩ : ∃ g, g = wr.heap.size := ⟨_, rfl⟩
        rw [← hge] at hg ⊢
        clear e0 e1 e2 e3 e4 e5 e6 e7 hW hge
        have e0 := blk_cell hg 0; have e6 := blk_cell hg 6; have e7 := blk_cell hg 7
        simp only [List.getElem?_cons_zero, List.getElem?_cons_succ] at e0 e6 e7
        have HG := Lib.hid hg; have HB1 := Lib.hid hB1
        clear hg hB1
        obtain ⟨kd, hkd⟩ : ∃ kd, kd = p.kind := ⟨_, rfl⟩
        rw [← hkd] at e0
        have HKD := Lib.hid hkd
        clear hkd
        have hgW : g < W.heap.size := blk_lt HG.out
        by_cases hK : kd = 3 ∨ kd = 4
        · have hdq : (Part.mk p ks os).dep = 1 + max (deps ks) (deps os) := by
            rw [Part.dep, ← HKD.out, if_pos (by rcases hK with h | h <;> rw [h] <;> rfl)]
          rw [hdq] at HSN
          clear hdq HKD
          generalize deps ks = dk at *
          generalize deps os = dn at *
          rcases hK with rfl | rfl
          all_goals
            have hBd : Below W.heap.size W W.drew := (Below.refl _ W).drew
            go_wp2_with fail
            go_region_held3 (fun w' => Below W.heap.size W w' ∧ w'.cell? ⟨g, 6, none⟩ = some (.slice Ak ks.length ck) ∧ w'.cell? ⟨g, 7, none⟩ = some (.slice Ao os.length co)) (go_keep) ((go_at_call 25; first | ((with_reducible refine (HK.out _ ?_).mono ?_); (focus assumption); rintro e w5 ⟨rfl, hb5⟩; have hbk := below_step (by assumption) hb5; have hg5 := blk_below HG.out hbk hgW; have k6 := blk_cell hg5 6; have k7 := blk_cell hg5 7; simp only [List.getElem?_cons_zero, List.getElem?_cons_succ] at k6 k7; clear hb5) | ((with_reducible refine (HO.out _ ?_).mono ?_); (focus assumption); rintro e w6 ⟨rfl, hb6⟩; have hbk := below_step (by assumption) hb6; have hg6 := blk_below HG.out hbk hgW; have k6 := blk_cell hg6 6; have k7 := blk_cell hg6 7; simp only [List.getElem?_cons_zero, List.getElem?_cons_succ] at k6 k7; clear hb6)))
            all_goals go_wp2_with fail
            all_goals refine ⟨⟨j + 1, by go_num, by omega, ?_, HB1.out.trans (hbk.mono HB1.out.size)⟩, by simp [intOf]; omega⟩
            all_goals rw [HSN.out, IntWalk.i64_in (1 + (dk : Int)) (by omega), IntWalk.i64_in (1 + (dn : Int)) (by omega)]
            all_goals congr 1
            all_goals omega
        · have hdq : (Part.mk p ks os).dep = 0 := by
            rw [Part.dep, ← HKD.out, if_neg (by intro h; rw [Bool.or_eq_true, beq_iff_eq, beq_iff_eq] at h; exact hK h)]
          rw [hdq] at HSN
          have k3 : (kd == 3) = false := by rw [beq_eq_false_iff_ne]; exact fun h => hK (.inl h)
          have k4 : (kd == 4) = false := by rw [beq_eq_false_iff_ne]; exact fun h => hK (.inr h)
          clear hdq HKD hK
          go_wp2_with fail
          refine ⟨⟨j + 1, by go_num, by omega, ?_, HB1.out⟩, by simp [intOf]; omega⟩
          rw [HSN.out, Nat.max_zero]
      · obtain rfl : j = n := by omega
        have tj : decide ((j : Int) < (j : Int)) = false := by rw [decide_eq_false_iff_not]; omega
        have hr : deps (ps.take j) = R := by rw [HR.out, List.take_of_length_le (by rw [← Hn.out]; exact Nat.le_refl _)]
        rw [hr]
        clear hr
        go_wp2_with fail
        go_ret
        exact ⟨rfl, hbr⟩
end Go.Proofs.YthilkpjdfjjikaaDoor
