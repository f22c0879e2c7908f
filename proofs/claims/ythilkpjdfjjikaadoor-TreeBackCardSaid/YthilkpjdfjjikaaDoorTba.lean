/-
  law18.TreeBack, walked.
-/
import Derived.Test.YthilkpjdfjjikaaDoorFlr
import Derived.Test.YthilkpjdfjjikaaDoorSzw
import Derived.Test.YthilkpjdfjjikaaDoorSmtM
set_option linter.unusedVariables false
set_option linter.unusedSimpArgs false
namespace Go.Proofs.YthilkpjdfjjikaaDoor
open Go.RowKit

theorem psz_append : ∀ a b : List Pc, psz (a ++ b) = psz a + psz b
  | [], b => by simp [psz]
  | p :: a, b => by rw [List.cons_append]; simp only [psz]; rw [psz_append a b]; omega
mutual
theorem flat_psz : ∀ q : Part, psz q.flat ≤ 3 * q.size
  | .mk p ks os => by
    have h1 := flats_psz ks
    have h2 := flats_psz os
    unfold Part.flat
    simp only [Part.size]
    by_cases hK : blockK p.kind = true
    · rw [if_pos hK]
      by_cases ho : os = []
      · rw [if_pos ho]; simp only [psz, psz_append, List.nil_append, List.length_nil]; omega
      · rw [if_neg ho]
        simp only [psz, psz_append, List.length_nil]; omega
    · rw [if_neg hK]; simp only [psz]; omega
theorem flats_psz : ∀ l : List Part, psz (flats l) ≤ 3 * sizes l
  | [] => by simp [flats, psz]
  | q :: r => by
    have h1 := flat_psz q
    have h2 := flats_psz r
    simp only [flats, sizes, psz_append]; omega
end
set_option maxHeartbeats 8000000 in
set_option maxRecDepth 100000 in
theorem back_any (ps : List Part) (v : Value) (w : World) (hT : Tabs w) (h : VRd w (fun b => b < w.heap.size) v ps) :
    Calls Tryd.prog 10 #[v] w fun e w' => e = .returned (.bool true) ∧ Below w.heap.size w w' := by
  have HF := Lib.hid (firstT_any w hT)
  have H22 := Lib.hid (fun (W : World) (hb : Below w.heap.size w W) => size_any 30 ps (fun b => b < w.heap.size) v W (by decide) (h.below hb (fun _ h => h)) (fun b h => by have := hb.size; omega))
  have hsz := sizeL_sizes 30 ps
  obtain ⟨A, c, rfl, hc, _⟩ := id h
  have H := Lib.hid h
  clear hT h
  obtain ⟨n, hn⟩ : ∃ n, n = ps.length := ⟨_, rfl⟩
  rw [← hn] at H22 H hc ⊢
  clear hn
  obtain ⟨S, hS⟩ : ∃ S, S = sizeL 30 ps := ⟨_, rfl⟩
  rw [← hS] at hsz
  simp only [← hS] at H22
  clear hS
  have H22 : Hid (∀ W : World, Below w.heap.size w W → Calls Tryd.prog 22 #[.slice A n c, .int .i64 30] W fun e w' => e = .returned (.int .i64 ((S : Nat) : Int)) ∧ Below W.heap.size W w') := H22
  by_cases h3 : 3000 < S
  · have t1 : decide ((S : Int) > 3000) = true := by rw [decide_eq_true_eq]; omega
    go_enter Tryd.func10, Tryd.ntmps10
    go_wp2_with (go_at_call 15; refine HF.out.mono ?_; rintro e w1 ⟨rfl, b1⟩)
    have hs1 := b1.size
    go_wp2_with (go_at_call 22; refine (H22.out _ b1).mono ?_; rintro e w2 ⟨rfl, b2⟩)
    go_ret
    exact ⟨rfl, b1.trans (b2.mono hs1)⟩
  · have t1 : decide ((S : Int) > 3000) = false := by rw [decide_eq_false_iff_not]; omega
    have hsp : sizes ps ≤ 3000 := by have := hsz (by omega); omega
    have hfl := flats_len ps
    have H23 := Lib.hid (fun (W : World) (hb : Below w.heap.size w W) => flat_any 3001 ps (fun b => b < w.heap.size) (.slice A n c) W (by omega) (by decide) (H.out.below hb (fun _ h => h)) (fun b h => by have := hb.size; omega))
    have H24 := Lib.hid (fun (W : World) (hb : Below w.heap.size w W) => flatR_any 3001 ps (fun b => b < w.heap.size) (.slice A n c) W (by omega) (by decide) (H.out.below hb (fun _ h => h)) (fun b h => by have := hb.size; omega))
    have H21 := Lib.hid (fun (W : World) (hb : Below w.heap.size w W) => depth_any 3001 ps (fun b => b < w.heap.size) (.slice A n c) W (by omega) (by decide) (H.out.below hb (fun _ h => h)) (fun b h => by have := hb.size; omega))
    have H25 := Lib.hid (fun (W : World) (hb : Below w.heap.size w W) => depthR_any 3001 ps (fun b => b < w.heap.size) (.slice A n c) W (by omega) (by decide) (H.out.below hb (fun _ h => h)) (fun b h => by have := hb.size; omega))
    have hpth := flats_path 3000 ps hsp
    have herr := nestL_err (flats ps) 0
    have hnf := fun h => nest_flat (nestL (flats ps) 0).out 0 (nestL_wf (flats ps) 0) h
    have hnf := hnf (nestL_dpt (flats ps) 0)
    have hns : sizes (nestL (flats ps) 0).out ≤ 9000 := by
      have h1 := nest_sz 0 (flats ps) ⟨[], []⟩
      have h2 := flats_psz ps
      have h3 : (⟨[], []⟩ : NSt).sz = 0 := rfl
      unfold nestL; omega
    obtain ⟨F, hF⟩ : ∃ F, F = flats ps := ⟨_, rfl⟩
    rw [← hF] at hfl hpth herr hnf hns
    simp only [← hF] at H23 H24
    obtain ⟨D, hD⟩ : ∃ D, D = deps ps := ⟨_, rfl⟩
    simp only [← hD] at H21 H25
    have HPT := Lib.hid hpth
    have hFl : F.length ≤ 9000 := by omega
    have hns2 : sizes (nestL F 0).out ≤ 9000 := hns
    clear hF hD hns hpth hsz hfl hsp
    have hq2 : (nestL F 0).out = (nestL F 0).out := rfl
    obtain ⟨Rn, hRn⟩ : ∃ Rn, Rn = nestL F 0 := ⟨_, rfl⟩
    rw [← hRn] at herr hnf hns2
    have HRn := Lib.hid hRn
    clear hRn hq2
    obtain ⟨out, pos, err⟩ := Rn
    dsimp only at herr hnf hns2
    have HNF := Lib.hid hnf
    clear hnf
    go_enter Tryd.func10, Tryd.ntmps10
    go_wp2_with (go_at_call 15; refine HF.out.mono ?_; rintro e w1 ⟨rfl, b1⟩)
    have hs1 := b1.size
    refine (H22.out _ b1).mono ?_
    rintro e w2 ⟨rfl, b2⟩
    have b12 := b1.trans (b2.mono hs1)
    have hs2 := b12.size
    have B12 := Lib.hid b12
    clear b1 b2 b12 H22 HF
    go_upto_region 6 with (go_at_call 23; refine (H23.out _ B12.out).mono ?_; rintro e w3 ⟨v3, rfl, hv3, b3⟩; have HV3 := Lib.hid hv3; have B3 := Lib.hid b3; clear hv3 b3)
    have hs3 := B3.out.size
    have B23 := Lib.hid (B12.out.trans (B3.out.mono (by omega)))
    go_upto_region 8 with (first | (go_at_call 24; refine (H24.out _ B23.out).mono ?_; rintro e w4 ⟨v4, rfl, hv4, b4⟩; have HV4 := Lib.hid hv4; have B4 := Lib.hid b4; have hs4 := b4.size; have B24 := Lib.hid (B23.out.trans (b4.mono (by omega))); clear hv4 b4) | (go_at_call 14; refine (sameI_any F _ _ v3 v4 w4 ((HV3.out.below (fun b h => (by omega)) (by omega) B4.out).pcs (fun b h => by omega)) (HV4.out.pcs (fun b h => by omega)) (fun _ h => h) (fun _ h => h) (by omega) (fun q hq => by have := HPT.out q hq; omega)).mono ?_; rintro e w5 ⟨rfl, b5⟩; have B25 := Lib.hid (B24.out.trans (b5.mono (by omega))); have hs5 := b5.size; have B45 := Lib.hid b5; clear b5) | (go_at_call 21; refine (H21.out _ B25.out).mono ?_; rintro e w6 ⟨rfl, b6⟩; have B26 := Lib.hid (B25.out.trans (b6.mono (by omega))); have hs6 := b6.size; have B56 := Lib.hid b6; clear b6) | (go_at_call 25; refine (H25.out _ B26.out).mono ?_; rintro e w7 ⟨rfl, b7⟩; have B27 := Lib.hid (B26.out.trans (b7.mono (by omega))); have hs7 := b7.size; have B67 := Lib.hid b7; clear b7) | fail)
    have B37 := Lib.hid (B4.out.trans ((B45.out.mono (by omega)).trans ((B56.out.mono (by omega)).trans (B67.out.mono (by omega)))))
    have h19 := nest_any F 0 (fun b => b < w7.heap.size) v3 w7 ((HV3.out.below (fun b h => (by omega)) (by omega) B37.out).pcs (fun b h => by omega)) (fun _ h => h) (by omega) (fun q hq => by have := HPT.out q hq; omega)
    rw [← HRn.out] at h19
    dsimp only at h19
    rcases herr with ⟨rfl, rfl⟩ | ⟨rfl, rfl⟩
    · have H19 : Hid (Calls Tryd.prog 19 #[v3, .int .i64 0] w7 fun e w' => ∃ v', e = .returned (.tuple #[v', .int .i64 0, .int .i64 0]) ∧ VRd w' (fun b => b < w'.heap.size) v' out ∧ Below w7.heap.size w7 w') := h19
      clear h19
      go_upto_region 9 with (go_at_call 19; refine H19.out.mono ?_; rintro e w8 ⟨v8, rfl, hv8, b8⟩; have HV8 := Lib.hid hv8; have B28 := Lib.hid (B27.out.trans (b8.mono (by omega))); have hs8 := b8.size; clear hv8 b8)
      have hof := flats_len out
      have hop := flats_path 9000 out hns2
      have h23 := flat_any 9001 out (fun b => b < w8.heap.size) v8 w8 (by omega) (by decide) HV8.out (fun _ h => h)
      have hnf2 := HNF.out
      obtain ⟨G, hG⟩ : ∃ G, G = flats out := ⟨_, rfl⟩
      rw [← hG] at hof hop h23 hnf2
      have H23 := Lib.hid h23; have HNF2 := Lib.hid hnf2; have HOP := Lib.hid hop
      clear hG h23 hnf2 hop
      go_upto_region 11 with fail
      go_wp2_with (first | (go_at_call 23; refine H23.out.mono ?_; rintro e w9 ⟨v9, rfl, hv9, b9⟩; have HV9 := Lib.hid hv9; have B29 := Lib.hid (B28.out.trans (b9.mono (by omega))); have B89 := Lib.hid b9; have hs9 := b9.size; clear hv9 b9) | (go_at_call 19; refine (nest_any G 0 (fun b => b < w9.heap.size) v9 w9 (HV9.out.pcs (fun b h => by omega)) (fun _ h => h) (by omega) (fun q hq => by have := HOP.out q hq; omega)).mono ?_; rw [HNF2.out]; rintro e w10 ⟨v10, rfl, hv10, b10⟩; have HV10 := Lib.hid hv10; have B2A := Lib.hid (B29.out.trans (b10.mono (by omega))); have B9A := Lib.hid b10; have hs10 := b10.size; clear hv10 b10) | fail)
      refine (sameT_any 10000 out _ _ v8 v10 w10 (by omega) (by decide) (HV8.out.below (B89.out.trans (B9A.out.mono (by omega))) (fun _ h => h)) HV10.out (fun b h => by omega) (fun _ h => h)).mono ?_
      rintro e w11 ⟨rfl, b11⟩
      go_wp2_with fail
      go_ret
      exact ⟨rfl, B2A.out.trans (b11.mono (by omega))⟩
    · have H19 : Hid (Calls Tryd.prog 19 #[v3, .int .i64 0] w7 fun e w' => ∃ v', e = .returned (.tuple #[v', .int .i64 pos, .int .i64 180]) ∧ VRd w' (fun b => b < w'.heap.size) v' [] ∧ Below w7.heap.size w7 w') := h19
      clear h19
      go_wp2_with (go_at_call 19; refine H19.out.mono ?_; rintro e w8 ⟨v8, rfl, hv8, b8⟩)
      go_ret
      exact ⟨rfl, B27.out.trans (b8.mono (by omega))⟩
end Go.Proofs.YthilkpjdfjjikaaDoor
