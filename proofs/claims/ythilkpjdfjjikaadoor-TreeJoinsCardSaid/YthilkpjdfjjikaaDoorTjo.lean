/-
  law18.TreeJoins, walked.
-/
import Derived.Test.YthilkpjdfjjikaaDoorSmtM
import Derived.Test.YthilkpjdfjjikaaDoorJon
set_option linter.unusedVariables false
set_option linter.unusedSimpArgs false
namespace Go.Proofs.YthilkpjdfjjikaaDoor
open Go.RowKit
attribute [local go_sem ↓] Go.wp_at_zero Go.wp_at_succ

theorem VRd.front {w : World} {P : Nat → Prop} {A : Option Addr} {n c : Nat} {o r : List Part} (h : VRd w P (.slice A n c) (o ++ r)) : VRd w P (.slice A o.length c) o := by
  obtain ⟨A', c', e, hc, h3⟩ := h
  injection e with e1 e2 e3
  subst e1 e3
  rw [List.length_append] at hc
  refine ⟨A, c, rfl, by omega, ?_⟩
  by_cases ho : o = []
  · exact .inl ho
  · rcases h3 with h3 | ⟨b, off, h4, h5, h6⟩
    · exact absurd (List.append_eq_nil_iff.1 h3).1 ho
    · refine .inr ⟨b, off, h4, h5, LsRd.of_at _ _ _ fun i q hi => LsRd.at_ _ _ _ _ _ h6 ?_⟩
      rw [List.getElem?_append_left (List.getElem?_eq_some_iff.1 hi).1]; exact hi
set_option maxHeartbeats 8000000 in
set_option maxRecDepth 100000 in
theorem joins_any (a b : Bs) (w : World) (hT : Tabs w) (ha : a.length ≤ maxLen) (hb : b.length ≤ maxLen) :
    Calls Tryd.prog 9 #[.string (bs a), .string (bs b)] w fun e w' => e = .returned (.bool true) ∧ Below w.heap.size w w' := by
  have hza : (bs a).size = a.length := bs_size a
  have hzb : (bs b).size = b.length := bs_size b
  have HF := Lib.hid (firstT_any w hT)
  have HT := Lib.hid hT
  unfold maxLen at ha hb
  have hx1 : bs (a ++ [124]) = bs a ++ ⟨#[124]⟩ := by rw [← bs_cat]; rfl
  have hy1 : bs (124 :: b) = ⟨#[124]⟩ ++ bs b := by rw [show (124 :: b : Bs) = [124] ++ b from rfl, ← bs_cat]; rfl
  have hz1 : bs (a ++ 124 :: 124 :: b) = bs a ++ ⟨#[124, 124]⟩ ++ bs b := by rw [show (a ++ 124 :: 124 :: b : Bs) = a ++ [124, 124] ++ b from by simp, ← bs_cat, ← bs_cat]; rfl
  have HX := Lib.hid (fun W hW => parse_any (a ++ [124]) W hW)
  have HY := Lib.hid (fun W hW => parse_any (124 :: b) W hW)
  have HZ := Lib.hid (fun W hW => parse_any (a ++ 124 :: 124 :: b) W hW)
  have hj := parse_join a b
  have hsx := parseL_sz (a ++ [124]); have hsy := parseL_sz (124 :: b); have hsz := parseL_sz (a ++ 124 :: 124 :: b)
  rw [hx1] at HX
  rw [hy1] at HY
  rw [hz1] at HZ
  obtain ⟨S, hS⟩ : ∃ S, S = bs a := ⟨_, rfl⟩
  obtain ⟨T, hTt⟩ : ∃ T, T = bs b := ⟨_, rfl⟩
  rw [← hS] at hza HX HZ
  rw [← hTt] at hzb HY HZ
  rw [← hS, ← hTt]
  clear hx1 hy1 hz1 hT hS hTt
  obtain ⟨n, hn⟩ : ∃ n, n = a.length := ⟨_, rfl⟩
  obtain ⟨m, hm⟩ : ∃ m, m = b.length := ⟨_, rfl⟩
  rw [← hn] at hza ha hj
  rw [← hm] at hzb hb hj
  generalize parseL (a ++ [124]) = X at *
  generalize parseL (124 :: b) = Y at *
  generalize parseL (a ++ 124 :: 124 :: b) = Z at *
  clear hn hm
  obtain ⟨xo, xp, xe⟩ := X
  obtain ⟨yo, yp, ye⟩ := Y
  dsimp only at hj hsx hsy HX HY
  by_cases h2 : 2000 < max n m
  · have t1 : decide (2000 < max (n : Int) (m : Int)) = true := by rw [decide_eq_true_eq]; omega
    clear hj HX HY HZ
    go_enter Tryd.func9, Tryd.ntmps9
    go_wp2_with (go_at_call 15; refine HF.out.mono ?_; rintro e w1 ⟨rfl, b1⟩)
    go_ret
    exact ⟨rfl, b1⟩
  · have t1 : decide (2000 < max (n : Int) (m : Int)) = false := by rw [decide_eq_false_iff_not]; omega
    have o1 : ¬ 9223372036854775807 < S.size + (⟨#[124]⟩ : ByteArray).size := by rw [show (⟨#[124]⟩ : ByteArray).size = 1 from rfl]; omega
    have o2 : ¬ 9223372036854775807 < (⟨#[124]⟩ : ByteArray).size + T.size := by rw [show (⟨#[124]⟩ : ByteArray).size = 1 from rfl]; omega
    have o3 : ¬ 9223372036854775807 < S.size + (⟨#[124, 124]⟩ : ByteArray).size := by rw [show (⟨#[124, 124]⟩ : ByteArray).size = 2 from rfl]; omega
    have o4 : ¬ 9223372036854775807 < (S ++ ⟨#[124, 124]⟩).size + T.size := by rw [ByteArray.size_append, show (⟨#[124, 124]⟩ : ByteArray).size = 2 from rfl]; omega
    have HJ := Lib.hid hj
    clear hj
    go_enter Tryd.func9, Tryd.ntmps9
    go_wp2_with (go_at_call 15; refine HF.out.mono ?_; rintro e w1 ⟨rfl, b1⟩)
    have hs1 := b1.size
    refine (HX.out _ (HT.out.below b1)).mono ?_
    rintro e w2 ⟨vx, rfl, hvx, b2⟩
    have hs2 := b2.size
    have HVX := Lib.hid hvx; have B12 := Lib.hid (b1.trans (b2.mono hs1))
    clear hvx b1 b2 HF HX
    go_upto_region 7 with (go_at_call 16; refine (HY.out _ (HT.out.below B12.out)).mono ?_; rintro e w3 ⟨vy, rfl, hvy, b3⟩; have HVY := Lib.hid hvy; have B23 := Lib.hid b3; have hs3 := b3.size; have B13 := Lib.hid (B12.out.trans (b3.mono (by omega))); clear hvy b3)
    go_upto_region 8 with (go_at_call 16; refine (HZ.out _ (HT.out.below B13.out)).mono ?_; rintro e w4 ⟨vz, rfl, hvz, b4⟩; have HVZ := Lib.hid hvz; have B34 := Lib.hid b4; have hs4 := b4.size; have B14 := Lib.hid (B13.out.trans (b4.mono (by omega))); clear hvz b4)
    clear HY HZ
    by_cases hxe : xe = 0
    · by_cases hye : ye = 0
      · subst hxe hye
        obtain ⟨o, q, q', r, j1, j2, j3, j4⟩ := HJ.out (by omega) (by omega) rfl rfl
        try dsimp only at j1 j2 j3 j4
        subst j1 j2
        try dsimp only at hsz
        have HVZ : Hid (VRd w4 (fun b => b < w4.heap.size) vz (o ++ q' :: r)) := HVZ
        have hvx := HVX.out
        have hvz := HVZ.out
        obtain ⟨Ax, cx, rfl, hcx, _⟩ := id hvx
        obtain ⟨Az, cz, rfl, hcz, _⟩ := id hvz
        obtain ⟨Ay, cy, rfl, hcy, _⟩ := id HVY.out
        have lx := sizes_len (o ++ [q]); have ly := sizes_len yo; have lz := sizes_len (o ++ q' :: r)
        have hsz : sizes (o ++ q' :: r) ≤ 120000 := hsz
        have k1 : (o ++ [q]).length = o.length + 1 := by rw [List.length_append]; rfl
        have k3 : (o ++ q' :: r).length = o.length + 1 + r.length := by rw [List.length_append, List.length_cons]; omega
        have HDX := Lib.hid (fun (W : World) (hb : Below w4.heap.size w4 W) => depth_any 120001 (o ++ [q]) (fun b => b < w2.heap.size) _ W (by omega) (by decide) (hvx.below (B34.out.mono (by omega) |> (B23.out.trans ·) |>.trans (hb.mono (by omega))) (fun _ h => h)) (fun b h => by have := hb.size; omega))
        have HDY := Lib.hid (fun (W : World) (hb : Below w4.heap.size w4 W) => depth_any 120001 yo (fun b => b < w3.heap.size) _ W (by omega) (by decide) (HVY.out.below (B34.out.trans (hb.mono (by omega))) (fun _ h => h)) (fun b h => by have := hb.size; omega))
        have HDZ := Lib.hid (fun (W : World) (hb : Below w4.heap.size w4 W) => depth_any 120001 (o ++ q' :: r) (fun b => b < w4.heap.size) _ W (by omega) (by decide) (hvz.below hb (fun _ h => h)) (fun b h => by have := hb.size; omega))
        have hox : VRd w4 (fun b => b < w4.heap.size) (.slice Ax o.length cx) o := ((hvx.below (B23.out.trans (B34.out.mono (by omega))) (fun _ h => h)).frame (fun _ _ => rfl) (fun b h => by omega)).front
        have hoz : VRd w4 (fun b => b < w4.heap.size) (.slice Az o.length cz) o := HVZ.out.front
        have HOX := Lib.hid hox; have HOZ := Lib.hid hoz
        have hso : sizes o ≤ 120000 := by have := sizes_append o (q' :: r); omega
        rw [j4] at HDZ
        rw [k1] at HDX hcx ⊢
        rw [k3] at HDZ hcz ⊢
        have hyl : yo.length = r.length + 1 := j3.symm
        rw [hyl] at HDY hcy ⊢
        obtain ⟨DX, hDX⟩ : ∃ DX, DX = deps (o ++ [q]) := ⟨_, rfl⟩
        obtain ⟨DY, hDY⟩ : ∃ DY, DY = deps yo := ⟨_, rfl⟩
        simp only [← hDX] at HDX HDZ
        simp only [← hDY] at HDY HDZ
        have hdx : DX ≤ 120000 := by have := deps_size (o ++ [q]); omega
        have hdy : DY ≤ 120000 := by have := deps_size yo; omega
        have HSO := Lib.hid hso
        have hol : o.length ≤ 120000 := by omega
        have hrl : r.length ≤ 120000 := by omega
        obtain ⟨ol, hol'⟩ : ∃ ol, ol = o.length := ⟨_, rfl⟩
        obtain ⟨rl, hrl'⟩ : ∃ rl, rl = r.length := ⟨_, rfl⟩
        simp only [← hol'] at HDX HDZ HOX HOZ hcx hcz hol ⊢
        simp only [← hrl'] at HDY HDZ hcy hcz hrl ⊢
        clear lx ly lz k1 k3 j3 j4 hyl hDX hDY hvx hvz hox hoz hso hol' hrl' HVX HVY HVZ hsz hsx hsy HJ
        have t5 : (((max DX DY : Nat) : Int) != max (DX : Int) (DY : Int)) = false := by rw [bne_eq_false_iff_eq]; omega
        have b44 : Below w4.heap.size w4 w4 := Below.refl _ _
        go_wp2_with fail
        ((with_reducible refine (HDZ.out _ ?_).mono ?_); (focus assumption))
        rintro e w5 ⟨rfl, b5⟩
        have b45 : Below w4.heap.size w4 w5 := b44.trans (b5.mono (by omega))
        have hs5 := b5.size
        clear b5 b44
        go_wp2_with fail
        ((with_reducible refine (HDX.out _ ?_).mono ?_); (focus assumption))
        rintro e w6 ⟨rfl, b6⟩
        have b46 : Below w4.heap.size w4 w6 := b45.trans (b6.mono (by omega))
        have hs6 := b6.size
        clear b6 b45
        go_wp2_with fail
        ((with_reducible refine (HDY.out _ ?_).mono ?_); (focus assumption))
        rintro e w7 ⟨rfl, b7⟩
        have b47 : Below w4.heap.size w4 w7 := b46.trans (b7.mono (by omega))
        have hs7 := b7.size
        clear b7 b46
        go_upto_region 12 with fail
        have H18 := Lib.hid (fun (W : World) (hb : Below w4.heap.size w4 W) => sameT_any 120001 o (fun b => b < w4.heap.size) (fun b => b < w4.heap.size) _ _ W (by have := HSO.out; omega) (by decide) (HOZ.out.below hb (fun _ h => h)) (HOX.out.below hb (fun _ h => h)) (fun b h => by have := hb.size; omega) (fun b h => by have := hb.size; omega))
        have i1 : (0 : Int) ≤ (ol : Int) := by omega
        have i2 : (ol : Int) ≤ (cx : Int) := by omega
        have i3 : (ol : Int) ≤ (cz : Int) := by omega
        have i4 : IntKind.i64.wrap (ol : Int) = (ol : Int) := IntWalk.i64_in _ (by omega)
        have bd : Below w4.heap.size w4 w7.drew := b47.drew
        clear hs1 hs2 hs3 hs4 hs5 hs6 hs7 hdx hdy hol hrl
        go_region_held3 (fun w' => Below w4.heap.size w4 w') (assumption) ((go_at_call 18; (with_reducible refine (H18.out _ ?_).mono ?_); (focus assumption); rintro e w8 ⟨rfl, b8⟩; have b48 : Below w4.heap.size w4 w8 := bd.trans (b8.mono bd.size); clear b8))
        go_wp2_with fail
        go_ret
        exact ⟨rfl, B14.out.trans (b48.mono B14.out.size)⟩
      · have t2 : (ye != 0) = true := by rw [bne_iff_ne]; exact hye
        subst hxe
        go_wp2_with fail
        go_ret
        exact ⟨rfl, B14.out⟩
    · have t2 : (xe != 0) = true := by rw [bne_iff_ne]; exact hxe
      go_wp2_with fail
      go_ret
      exact ⟨rfl, B14.out⟩
end Go.Proofs.YthilkpjdfjjikaaDoor
