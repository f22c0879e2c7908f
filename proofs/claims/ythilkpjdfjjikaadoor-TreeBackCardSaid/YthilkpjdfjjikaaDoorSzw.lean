/-
  The document's Size of parts, walked.
-/
import Derived.Test.YthilkpjdfjjikaaDoorDep
import Derived.Test.YthilkpjdfjjikaaDoorSzp
set_option linter.unusedVariables false
set_option linter.unusedSimpArgs false
namespace Go.Proofs.YthilkpjdfjjikaaDoor
open Go.RowKit
attribute [local go_sem ↓] Go.wp_at_zero Go.wp_at_succ

theorem drop_part (l : List Part) (i : Nat) (q : Part) (h : l[i]? = some q) : l.drop i = q :: l.drop (i + 1) := by
  obtain ⟨hl, rfl⟩ := List.getElem?_eq_some_iff.1 h
  exact List.drop_eq_getElem_cons hl
set_option maxHeartbeats 8000000 in
set_option maxRecDepth 100000 in
theorem size_any : ∀ (d : Nat) (ps : List Part) (P : Nat → Prop) (v : Value) (w : World), d ≤ 30 → VRd w P v ps → (∀ b, P b → b < w.heap.size) →
    Calls Tryd.prog 22 #[v, .int .i64 (d : Int)] w fun e w' => e = .returned (.int .i64 ((sizeL d ps : Nat) : Int)) ∧ Below w.heap.size w w' := by
  intro d
  induction d with
  | zero =>
    intro ps P v w _ h _
    obtain ⟨A, c, rfl, hc, _⟩ := h
    rw [show ((0 : Nat) : Int) = 0 from rfl]
    have hR : ((sizeL 0 ps : Nat) : Int) = 10001 := rfl
    rw [hR]
    clear hR
    go_enter Tryd.func22, Tryd.ntmps22
    go_wp2_with fail
    go_ret
    exact ⟨rfl, Below.refl _ _⟩
  | succ d ih =>
    intro ps P v w hd h hP
    have hrd := h
    obtain ⟨A, c, rfl, hc, _⟩ := h
    have HP := Lib.hid hP; have HI := Lib.hid ih
    have hfb := sizeL_le d
    obtain ⟨R, hR⟩ : ∃ R, R = sizeL (d + 1) ps := ⟨_, rfl⟩
    rw [← hR]
    have HR := Lib.hid hR
    obtain ⟨f, hf⟩ : ∃ f, f = sizeL d := ⟨_, rfl⟩
    have HF := Lib.hid hf
    have hfb2 : ∀ l, f l ≤ 1000000 := fun l => by have := hfb l; rw [← hf] at this; omega
    obtain ⟨n, hn⟩ : ∃ n, n = ps.length := ⟨_, rfl⟩
    rw [← hn] at hc hrd ⊢
    have Hn := Lib.hid hn; have H := Lib.hid hrd; have HFB := Lib.hid hfb2
    clear hP ih hR hn hrd hfb hf hfb2
    have td : (((d + 1 : Nat) : Int) == 0) = false := by rw [beq_eq_false_iff_ne]; omega
    have hdd : ((d + 1 : Nat) : Int) = (d : Int) + 1 := by omega
    have hd1 : IntKind.i64.wrap (d : Int) = (d : Int) := IntWalk.i64_in _ (by omega)
    rw [hdd] at td ⊢
    by_cases hbig : 10000 < n
    · have tn : decide ((n : Int) > 10000) = true := by rw [decide_eq_true_eq]; omega
      have hr : R = 10001 := by rw [HR.out]; unfold sizeL; rw [if_pos (by rw [← Hn.out]; exact hbig)]
      have HRR := Lib.hid hr
      clear hr hd1
      go_enter Tryd.func22, Tryd.ntmps22
      go_wp2_with fail
      go_ret
      exact ⟨by rw [HRR.out]; rfl, Below.refl _ _⟩
    · have tn : decide ((n : Int) > 10000) = false := by rw [decide_eq_false_iff_not]; omega
      have hr : R = sizeGo f (ps.drop 0) 0 := by rw [HR.out, HF.out]; conv => lhs; unfold sizeL
                                                 rw [if_neg (by rw [← Hn.out]; exact hbig)]; rfl
      have HRR := Lib.hid hr
      clear hr
      have Hd1 := Lib.hid hd1
      clear hd1
      go_enter Tryd.func22, Tryd.ntmps22
      go_wp2_with fail
      go_loopw [5, 17] (fun m i wr => ∃ j k : Nat, i = .int .i64 (j : Int) ∧ j ≤ n ∧ m = .int .i64 (k : Int) ∧ k ≤ 3000000 ∧ R = sizeGo f (ps.drop j) k ∧ Below w.heap.size w wr) (fun _ i _ => n - (intOf i).toNat)
      case atStart => exact ⟨0, 0, rfl, Nat.zero_le _, rfl, by omega, HRR.out, Below.refl _ _⟩
      case round =>
        obtain ⟨j, k, rfl, hj, rfl, hk, hRj, hbr⟩ := hrel
        have hbs := hbr.size
        have HRj := Lib.hid hRj
        clear hRj
        by_cases hjn : j < n
        · have tj : decide ((j : Int) < (n : Int)) = true := by rw [decide_eq_true_eq]; omega
          obtain ⟨b, off, p, ks, os, Av, cv, Ak, ck, Ao, co, rfl, hb, hq, hcell, _, hks, hos⟩ := (H.out.below hbr HP.out).part Hn.out j hjn
          have hb := HP.out b hb
          have hgo : R = if 10000 < k ∨ bigPc p then 10001
              else if k + (1 + p.text.length + p.path.length + f ks) ≤ 10000 then sizeGo f (ps.drop (j + 1)) (k + (1 + p.text.length + p.path.length + f ks) + f os)
              else sizeGo f (ps.drop (j + 1)) (k + (1 + p.text.length + p.path.length + f ks)) := by
            rw [HRj.out, drop_part ps j _ hq]; rfl
          have hfk := HFB.out ks
          have hfo := HFB.out os
          have e0 := hcell 0 (by decide); have e1 := hcell 1 (by decide); have e2 := hcell 2 (by decide); have e3 := hcell 3 (by decide); have e4 := hcell 4 (by decide); have e5 := hcell 5 (by decide); have e6 := hcell 6 (by decide); have e7 := hcell 7 (by decide)
          simp only [ptc, List.getElem?_cons_zero, List.getElem?_cons_succ, Nat.add_zero] at e0 e1 e2 e3 e4 e5 e6 e7
          have HBR := Lib.hid hbr
          have HKS := Lib.hid hks; have HOS := Lib.hid hos; have HGO := Lib.hid hgo
          clear hcell hbr hks hos hq hgo
          have hg := blk_new wr 74 #[.int .i64 p.kind, .int .i64 p.pos, .string (bs p.text), .slice Av p.path.length cv, .string (bs p.name), .int .i64 p.place, .slice Ak ks.length ck, .slice Ao os.length co]
          go_upto_region 7 with fail
          have hB1 : Below w.heap.size w (wr.alloc (.cells #[.int .i64 p.kind, .int .i64 p.pos, .string (bs p.text), .slice Av p.path.length cv, .string (bs p.name), .int .i64 p.place, .slice Ak ks.length ck, .slice Ao os.length co] 74)) := HBR.out.alloc hbs _
          have hbw : Below wr.heap.size wr (wr.alloc (.cells #[.int .i64 p.kind, .int .i64 p.pos, .string (bs p.text), .slice Av p.path.length cv, .string (bs p.name), .int .i64 p.place, .slice Ak ks.length ck, .slice Ao os.length co] 74)) := (Below.refl _ wr).alloc (Nat.le_refl _) _
          have hPr : ∀ b, P b → b < wr.heap.size := fun b h => Nat.lt_of_lt_of_le (HP.out b h) hbs
          have hks2 := HKS.out.below hbw hPr
          have hos2 := HOS.out.below hbw hPr
          have hsw := hbw.size
          obtain ⟨W, hW⟩ : ∃ W, W = wr.alloc (.cells #[.int .i64 p.kind, .int .i64 p.pos, .string (bs p.text), .slice Av p.path.length cv, .string (bs p.name), .int .i64 p.place, .slice Ak ks.length ck, .slice Ao os.length co] 74) := ⟨_, rfl⟩
          rw [← hW] at hg hB1 hks2 hos2 hsw ⊢
          have hPW : ∀ b, P b → b < W.heap.size := fun b h => Nat.lt_of_lt_of_le (hPr b h) hsw
          obtain ⟨sk, hsk⟩ : ∃ sk, sk = f ks := ⟨_, rfl⟩
          obtain ⟨so, hso⟩ : ∃ so, so = f os := ⟨_, rfl⟩
          have HK : Hid (∀ W', Below W.heap.size W W' → Calls Tryd.prog 22 #[.slice Ak ks.length ck, .int .i64 (d : Int)] W' fun e w' => e = .returned (.int .i64 (sk : Int)) ∧ Below W'.heap.size W' w') :=
            fun W' hb => by rw [hsk, HF.out]; exact HI.out ks P _ W' (by omega) (hks2.below hb hPW) (fun b h => Nat.lt_of_lt_of_le (hPW b h) hb.size)
          have HO : Hid (∀ W', Below W.heap.size W W' → Calls Tryd.prog 22 #[.slice Ao os.length co, .int .i64 (d : Int)] W' fun e w' => e = .returned (.int .i64 (so : Int)) ∧ Below W'.heap.size W' w') :=
            fun W' hb => by rw [hso, HF.out]; exact HI.out os P _ W' (by omega) (hos2.below hb hPW) (fun b h => Nat.lt_of_lt_of_le (hPW b h) hb.size)
          rw [← hsk] at hfk
          rw [← hso] at hfo
          rw [← hsk, ← hso] at HGO
          clear hks2 hos2 hPr hPW hbw hsk hso
          obtain ⟨g, hge⟩ : ∃ g, g = wr.heap.size := ⟨_, rfl⟩
          rw [← hge] at hg ⊢
          clear e0 e1 e2 e3 e4 e5 e6 e7 hW hge
          obtain ⟨tl, htl⟩ : ∃ tl, tl = p.text.length := ⟨_, rfl⟩
          obtain ⟨pl, hpl⟩ : ∃ pl, pl = p.path.length := ⟨_, rfl⟩
          obtain ⟨S, hS⟩ : ∃ S, S = bs p.text := ⟨_, rfl⟩
          have hSz : S.size = tl := by rw [hS, bs_size, htl]
          rw [← hpl, ← hS] at hg
          have hbp : bigPc p ↔ (10000 < tl ∨ 10000 < pl) := by unfold bigPc; rw [← htl, ← hpl]
          rw [← hpl, ← htl] at HGO
          have HBP := Lib.hid hbp
          clear hbp htl hS hpl
          have e2 := blk_cell hg 2; have e3 := blk_cell hg 3; have e6 := blk_cell hg 6
          simp only [List.getElem?_cons_zero, List.getElem?_cons_succ] at e2 e3 e6
          have HG := Lib.hid hg; have HB1 := Lib.hid hB1
          clear hg hB1
          have hgW : g < W.heap.size := blk_lt HG.out
          by_cases hkk : 10000 < k
          · have tk : decide ((k : Int) > 10000) = true := by rw [decide_eq_true_eq]; omega
            have hr := HGO.out
            rw [if_pos (.inl hkk)] at hr
            have HR2 := Lib.hid hr
            clear hr
            go_wp2_with fail
            go_ret
            exact ⟨by rw [HR2.out]; rfl, HB1.out⟩
          · have tk : decide ((k : Int) > 10000) = false := by rw [decide_eq_false_iff_not]; omega
            by_cases hbb : 10000 < tl ∨ 10000 < pl
            · have tb : decide (10000 < max (tl : Int) (pl : Int)) = true := by rw [decide_eq_true_eq]; omega
              have hr := HGO.out
              rw [if_pos (.inr (HBP.out.2 hbb))] at hr
              have HR2 := Lib.hid hr
              clear hr
              go_wp2_with fail
              go_ret
              exact ⟨by rw [HR2.out]; rfl, HB1.out⟩
            · have tb : decide (10000 < max (tl : Int) (pl : Int)) = false := by rw [decide_eq_false_iff_not]; omega
              have hr := HGO.out
              rw [if_neg (by rintro (h | h); exact hkk h; exact hbb (HBP.out.1 h))] at hr
              have HR2 := Lib.hid hr
              clear hr HGO
              have hBd : Below W.heap.size W W.drew := (Below.refl _ W).drew
              have s1 : IntKind.i64.wrap (1 + (tl : Int)) = 1 + (tl : Int) := IntWalk.i64_in _ (by omega)
              have s2 : IntKind.i64.wrap (1 + (tl : Int) + (pl : Int)) = 1 + (tl : Int) + (pl : Int) := IntWalk.i64_in _ (by omega)
              have s3 : IntKind.i64.wrap (1 + (tl : Int) + (pl : Int) + (sk : Int)) = 1 + (tl : Int) + (pl : Int) + (sk : Int) := IntWalk.i64_in _ (by omega)
              have s4 : IntKind.i64.wrap ((k : Int) + (1 + (tl : Int) + (pl : Int) + (sk : Int))) = (k : Int) + (1 + (tl : Int) + (pl : Int) + (sk : Int)) := IntWalk.i64_in _ (by omega)
              have S1 := Lib.hid s1; have S2 := Lib.hid s2; have S3 := Lib.hid s3; have S4 := Lib.hid s4
              clear s1 s2 s3 s4
              go_upto_region 9 with fail
              have s1 := S1.out; have s2 := S2.out; have s3 := S3.out; have s4 := S4.out; have hd1 := Hd1.out
              go_region_held3 (fun w' => Below W.heap.size W w' ∧ w'.cell? ⟨g, 2, none⟩ = some (.string S) ∧ w'.cell? ⟨g, 3, none⟩ = some (.slice Av pl cv) ∧ w'.cell? ⟨g, 6, none⟩ = some (.slice Ak ks.length ck)) (go_keep) ((go_at_call 22; (with_reducible refine (HK.out _ ?_).mono ?_); (focus assumption); rintro e w5 ⟨rfl, hb5⟩; have hbk := below_step (by assumption) hb5; have hg5 := blk_below HG.out hbk hgW; have k2 := blk_cell hg5 2; have k3 := blk_cell hg5 3; have k6 := blk_cell hg5 6; simp only [List.getElem?_cons_zero, List.getElem?_cons_succ] at k2 k3 k6; clear hb5))
              all_goals clear s1 s2 s3 s4 hd1
              have k7 := blk_cell hg5 7
              simp only [List.getElem?_cons_zero, List.getElem?_cons_succ] at k7
              by_cases h10 : k + (1 + tl + pl + sk) ≤ 10000
              · have t10 : decide ((k : Int) + (1 + (tl : Int) + (pl : Int) + (sk : Int)) ≤ 10000) = true := by rw [decide_eq_true_eq]; omega
                go_wp2_with (go_at_call 22; refine (HO.out _ hbk).mono ?_; rintro e w6 ⟨rfl, hb6⟩)
                refine ⟨⟨j + 1, k + (1 + tl + pl + sk) + so, by go_num, by omega, by go_num, by omega, by rw [HR2.out, if_pos h10], HB1.out.trans ((hbk.trans (hb6.mono hbk.size)).mono HB1.out.size)⟩, by simp [intOf]; omega⟩
              · have t10 : decide ((k : Int) + (1 + (tl : Int) + (pl : Int) + (sk : Int)) ≤ 10000) = false := by rw [decide_eq_false_iff_not]; omega
                go_wp2_with fail
                refine ⟨⟨j + 1, k + (1 + tl + pl + sk), by go_num, by omega, by go_num, by omega, by rw [HR2.out, if_neg h10], HB1.out.trans (hbk.mono HB1.out.size)⟩, by simp [intOf]; omega⟩
        · obtain rfl : j = n := by omega
          have tj : decide ((j : Int) < (j : Int)) = false := by rw [decide_eq_false_iff_not]; omega
          have hr : R = k := by rw [HRj.out, List.drop_of_length_le (by rw [← Hn.out]; exact Nat.le_refl _)]; rfl
          have HR2 := Lib.hid hr
          clear hr
          go_wp2_with fail
          go_ret
          exact ⟨by rw [HR2.out]; rfl, hbr⟩
end Go.Proofs.YthilkpjdfjjikaaDoor
