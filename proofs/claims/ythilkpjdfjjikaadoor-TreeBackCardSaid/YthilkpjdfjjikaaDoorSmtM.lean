/-
  Texts of this seat, joined: Smt, Tfi, Tps, Tne. Each says what it proves, ahead of itself.
-/
import Derived.Test.YthilkpjdfjjikaaDoorTrdM
import Derived.Test.YthilkpjdfjjikaaDoorPar
import Derived.Test.YthilkpjdfjjikaaDoorDep
import Derived.Test.YthilkpjdfjjikaaDoorTrs
set_option linter.unusedVariables false
set_option linter.unusedSimpArgs false
section
/-
  The document's comparison of two lists of parts, where they are the same.
-/
namespace Go.Proofs.YthilkpjdfjjikaaDoor
open Go.RowKit
attribute [local go_sem ↓] Go.wp_at_zero Go.wp_at_succ

theorem blk_two (W : World) (cs ds : Array Value) : Blk ((W.alloc (.cells cs 35)).alloc (.cells ds 35)) W.heap.size 35 cs.toList ∧ Blk ((W.alloc (.cells cs 35)).alloc (.cells ds 35)) (W.heap.size + 1) 35 ds.toList := by
  refine ⟨blk_alloc (blk_new W 35 cs) _, ?_⟩
  have := blk_new (W.alloc (.cells cs 35)) 35 ds
  rw [World.size_alloc] at this
  exact this
theorem pcs_one {W : World} {g : Nat} {p : Pc} {v : Value} (h : Blk W g 35 (pcc p v)) (hv : PathRd W (fun b => b < W.heap.size) v p.path) : PcsRd W (fun b => b < W.heap.size) (.slice (some ⟨g, 0, none⟩) 1 1) [p] := by
  refine ⟨_, 1, rfl, Nat.le_refl _, .inr ⟨g, 0, rfl, blk_lt h, fun i hi => ?_⟩⟩
  obtain rfl : i = 0 := by simpa using hi
  exact ⟨v, fun k _ => by rw [show 0 + 0 * 6 + k = k from by omega]; exact blk_cell h k, hv⟩
theorem same_one (p : Pc) (v v' : Value) (g g' : Nat) (W : World) (h : Blk W g 35 (pcc p v)) (h' : Blk W g' 35 (pcc p v')) (hv : PathRd W (fun b => b < W.heap.size) v p.path) (hv' : PathRd W (fun b => b < W.heap.size) v' p.path) (hl : p.path.length ≤ 100000000000000000) :
    Calls Tryd.prog 14 #[.slice (some ⟨g, 0, none⟩) 1 1, .slice (some ⟨g', 0, none⟩) 1 1] W fun e w' => e = .returned (.bool true) ∧ Below W.heap.size W w' :=
  sameI_any [p] _ _ _ _ W (pcs_one h hv) (pcs_one h' hv') (fun _ h => h) (fun _ h => h) (by show 1 ≤ _; decide) (fun q hq => by rw [List.mem_singleton.1 hq]; exact hl)
theorem keep_cell {w w' : World} {b o : Nat} {x : Option Value} (hb : Below w.heap.size w w') (hlt : b < w.heap.size) (h : w.cell? ⟨b, o, none⟩ = x) : w'.cell? ⟨b, o, none⟩ = x := (hb.cell (p := ⟨b, o, none⟩) hlt).trans h
set_option maxHeartbeats 8000000 in
set_option maxRecDepth 100000 in
theorem sameT_any : ∀ (N : Nat) (ps : List Part) (P P' : Nat → Prop) (v v' : Value) (w : World), sizes ps < N → N ≤ 100000000000000000 → VRd w P v ps → VRd w P' v' ps → (∀ b, P b → b < w.heap.size) → (∀ b, P' b → b < w.heap.size) →
    Calls Tryd.prog 18 #[v, v'] w fun e w' => e = .returned (.bool true) ∧ Below w.heap.size w w' := by
  intro N
  induction N with
  | zero => intro ps P P' v v' w h; exact absurd h (Nat.not_lt_zero _)
  | succ N ih =>
    intro ps P P' v v' w hN hN2 h h' hP hP'
    have hrd := h; have hrd' := h'
    obtain ⟨A, c, rfl, hc, _⟩ := h
    obtain ⟨A', c', rfl, hc', _⟩ := h'
    have hlen := sizes_len ps
    have HP := Lib.hid hP; have HP' := Lib.hid hP'; have HI := Lib.hid ih
    obtain ⟨n, hn⟩ : ∃ n, n = ps.length := ⟨_, rfl⟩
    rw [← hn] at hc hc' hlen hrd hrd' ⊢
    have Hn := Lib.hid hn; have H := Lib.hid hrd; have H' := Lib.hid hrd'
    clear hP hP' ih hn hrd hrd'
    go_enter Tryd.func18, Tryd.ntmps18
    go_wp2_with fail
    go_loopw [13] (fun i wr => ∃ j : Nat, i = .int .i64 (j : Int) ∧ j ≤ n ∧ Below w.heap.size w wr) (fun i _ => n - (intOf i).toNat)
    case atStart => exact ⟨0, rfl, Nat.zero_le _, Below.refl _ _⟩
    case round =>
      obtain ⟨j, rfl, hj, hbr⟩ := hrel
      have hbs := hbr.size
      by_cases hjn : j < n
      · have tj : decide ((j : Int) < (n : Int)) = true := by rw [decide_eq_true_eq]; omega
        obtain ⟨b, off, p, ks, os, Av, cv, Ak, ck, Ao, co, rfl, hb, hq, hcell, hpv, hks, hos⟩ := (H.out.below hbr HP.out).part Hn.out j hjn
        obtain ⟨b2, off2, p2, ks2, os2, Av2, cv2, Ak2, ck2, Ao2, co2, rfl, hb2, hq2, hcell2, hpv2, hks2, hos2⟩ := (H'.out.below hbr HP'.out).part Hn.out j hjn
        have hee := hq.symm.trans hq2
        injection hee with hee
        injection hee with he1 he2 he3
        subst he1 he2 he3
        clear hq2
        have hb := HP.out b hb
        have hb2 := HP'.out b2 hb2
        have hsz := sizes_at ps j _ hq
        simp only [Part.size] at hsz
        have e0 := hcell 0 (by decide); have e1 := hcell 1 (by decide); have e2 := hcell 2 (by decide); have e3 := hcell 3 (by decide); have e4 := hcell 4 (by decide); have e5 := hcell 5 (by decide); have e6 := hcell 6 (by decide); have e7 := hcell 7 (by decide)
        have f0 := hcell2 0 (by decide); have f1 := hcell2 1 (by decide); have f2 := hcell2 2 (by decide); have f3 := hcell2 3 (by decide); have f4 := hcell2 4 (by decide); have f5 := hcell2 5 (by decide); have f6 := hcell2 6 (by decide); have f7 := hcell2 7 (by decide)
        simp only [ptc, List.getElem?_cons_zero, List.getElem?_cons_succ, Nat.add_zero] at e0 e1 e2 e3 e4 e5 e6 e7 f0 f1 f2 f3 f4 f5 f6 f7
        have hPr : ∀ b, P b → b < wr.heap.size := fun b h => Nat.lt_of_lt_of_le (HP.out b h) hbs
        have hPr' : ∀ b, P' b → b < wr.heap.size := fun b h => Nat.lt_of_lt_of_le (HP'.out b h) hbs
        have HK : Hid (∀ W', Below wr.heap.size wr W' → Calls Tryd.prog 18 #[.slice Ak ks.length ck, .slice Ak2 ks.length ck2] W' fun e w' => e = .returned (.bool true) ∧ Below W'.heap.size W' w') :=
          fun W' hb => HI.out ks P P' _ _ W' (by omega) (by omega) (hks.below hb hPr) (hks2.below hb hPr') (fun b h => Nat.lt_of_lt_of_le (hPr b h) hb.size) (fun b h => Nat.lt_of_lt_of_le (hPr' b h) hb.size)
        have HO : Hid (∀ W', Below wr.heap.size wr W' → Calls Tryd.prog 18 #[.slice Ao os.length co, .slice Ao2 os.length co2] W' fun e w' => e = .returned (.bool true) ∧ Below W'.heap.size W' w') :=
          fun W' hb => HI.out os P P' _ _ W' (by omega) (by omega) (hos.below hb hPr) (hos2.below hb hPr') (fun b h => Nat.lt_of_lt_of_le (hPr b h) hb.size) (fun b h => Nat.lt_of_lt_of_le (hPr' b h) hb.size)
        have H14 : Hid (∀ W' g g', Below wr.heap.size wr W' → Blk W' g 35 (pcc p (.slice Av p.path.length cv)) → Blk W' g' 35 (pcc p (.slice Av2 p.path.length cv2)) → Calls Tryd.prog 14 #[.slice (some ⟨g, 0, none⟩) 1 1, .slice (some ⟨g', 0, none⟩) 1 1] W' fun e w' => e = .returned (.bool true) ∧ Below W'.heap.size W' w') :=
          fun W' g g' hb h h' => same_one p _ _ g g' W' h h' ((hpv.below hb hPr).frame (fun _ _ => rfl) (fun b h => Nat.lt_of_lt_of_le (hPr b h) hb.size)) ((hpv2.below hb hPr').frame (fun _ _ => rfl) (fun b h => Nat.lt_of_lt_of_le (hPr' b h) hb.size)) (by omega)
        have HC := Lib.hid hcell; have HC2 := Lib.hid hcell2
        have HBR := Lib.hid hbr
        have hbW : b < wr.heap.size := by omega
        have hbW2 : b2 < wr.heap.size := by omega
        clear hcell hcell2 hbr hks hos hks2 hos2 hpv hpv2 hq hPr hPr'
        have hBd : Below wr.heap.size wr wr.drew := (Below.refl _ wr).drew
        go_upto_region 6 with fail
        go_region_held3 (fun w' => Below wr.heap.size wr w' ∧ w'.cell? ⟨b, off + j * 8, none⟩ = some (.int .i64 p.kind) ∧ w'.cell? ⟨b, off + j * 8 + 1, none⟩ = some (.int .i64 p.pos) ∧ w'.cell? ⟨b, off + j * 8 + 2, none⟩ = some (.string (bs p.text)) ∧ w'.cell? ⟨b, off + j * 8 + 3, none⟩ = some (.slice Av p.path.length cv) ∧ w'.cell? ⟨b, off + j * 8 + 4, none⟩ = some (.string (bs p.name)) ∧ w'.cell? ⟨b, off + j * 8 + 5, none⟩ = some (.int .i64 p.place) ∧ w'.cell? ⟨b, off + j * 8 + 6, none⟩ = some (.slice Ak ks.length ck) ∧ w'.cell? ⟨b, off + j * 8 + 7, none⟩ = some (.slice Ao os.length co) ∧ w'.cell? ⟨b2, off2 + j * 8, none⟩ = some (.int .i64 p.kind) ∧ w'.cell? ⟨b2, off2 + j * 8 + 1, none⟩ = some (.int .i64 p.pos) ∧ w'.cell? ⟨b2, off2 + j * 8 + 2, none⟩ = some (.string (bs p.text)) ∧ w'.cell? ⟨b2, off2 + j * 8 + 3, none⟩ = some (.slice Av2 p.path.length cv2) ∧ w'.cell? ⟨b2, off2 + j * 8 + 4, none⟩ = some (.string (bs p.name)) ∧ w'.cell? ⟨b2, off2 + j * 8 + 5, none⟩ = some (.int .i64 p.place) ∧ w'.cell? ⟨b2, off2 + j * 8 + 6, none⟩ = some (.slice Ak2 ks.length ck2) ∧ w'.cell? ⟨b2, off2 + j * 8 + 7, none⟩ = some (.slice Ao2 os.length co2)) ((refine ⟨by first | assumption | exact ((Below.refl _ wr).alloc (Nat.le_refl _) _).drew | exact (((Below.refl _ wr).alloc (Nat.le_refl _) _).alloc (by simp) _).drew, ?_⟩; go_keep)) ((first | (go_at_call 14; ((with_reducible refine (H14.out _ _ _ ?_ ?_ ?_).mono ?_); (focus exact (((Below.refl _ wr).alloc (Nat.le_refl _) _).alloc (by simp) _).drew); (focus (first | exact blk_drew (blk_two wr _ _).1 | exact blk_drew (blk_two wr _ _).2)); (focus (first | exact blk_drew (blk_two wr _ _).1 | exact blk_drew (blk_two wr _ _).2)); rintro e w4 ⟨rfl, hb4⟩; have hbk := below_step (((Below.refl _ wr).alloc (Nat.le_refl _) _).alloc (by simp) _).drew hb4; have ke0 := keep_cell hbk hbW e0; have ke1 := keep_cell hbk hbW e1; have ke2 := keep_cell hbk hbW e2; have ke3 := keep_cell hbk hbW e3; have ke4 := keep_cell hbk hbW e4; have ke5 := keep_cell hbk hbW e5; have ke6 := keep_cell hbk hbW e6; have ke7 := keep_cell hbk hbW e7; have kf0 := keep_cell hbk hbW2 f0; have kf1 := keep_cell hbk hbW2 f1; have kf2 := keep_cell hbk hbW2 f2; have kf3 := keep_cell hbk hbW2 f3; have kf4 := keep_cell hbk hbW2 f4; have kf5 := keep_cell hbk hbW2 f5; have kf6 := keep_cell hbk hbW2 f6; have kf7 := keep_cell hbk hbW2 f7; clear hb4)) | (go_at_call 18; first | ((with_reducible refine (HK.out _ ?_).mono ?_); (focus assumption); rintro e w5 ⟨rfl, hb5⟩; have hbk := below_step (by assumption) hb5; have ke0 := keep_cell hbk hbW e0; have ke1 := keep_cell hbk hbW e1; have ke2 := keep_cell hbk hbW e2; have ke3 := keep_cell hbk hbW e3; have ke4 := keep_cell hbk hbW e4; have ke5 := keep_cell hbk hbW e5; have ke6 := keep_cell hbk hbW e6; have ke7 := keep_cell hbk hbW e7; have kf0 := keep_cell hbk hbW2 f0; have kf1 := keep_cell hbk hbW2 f1; have kf2 := keep_cell hbk hbW2 f2; have kf3 := keep_cell hbk hbW2 f3; have kf4 := keep_cell hbk hbW2 f4; have kf5 := keep_cell hbk hbW2 f5; have kf6 := keep_cell hbk hbW2 f6; have kf7 := keep_cell hbk hbW2 f7; clear hb5) | ((with_reducible refine (HO.out _ ?_).mono ?_); (focus assumption); rintro e w5 ⟨rfl, hb5⟩; have hbk := below_step (by assumption) hb5; have ke0 := keep_cell hbk hbW e0; have ke1 := keep_cell hbk hbW e1; have ke2 := keep_cell hbk hbW e2; have ke3 := keep_cell hbk hbW e3; have ke4 := keep_cell hbk hbW e4; have ke5 := keep_cell hbk hbW e5; have ke6 := keep_cell hbk hbW e6; have ke7 := keep_cell hbk hbW e7; have kf0 := keep_cell hbk hbW2 f0; have kf1 := keep_cell hbk hbW2 f1; have kf2 := keep_cell hbk hbW2 f2; have kf3 := keep_cell hbk hbW2 f3; have kf4 := keep_cell hbk hbW2 f4; have kf5 := keep_cell hbk hbW2 f5; have kf6 := keep_cell hbk hbW2 f6; have kf7 := keep_cell hbk hbW2 f7; clear hb5))))
        all_goals go_wp2_with fail
        all_goals exact ⟨⟨j + 1, by go_num, by omega, HBR.out.trans (hbk.mono hbs)⟩, by simp [intOf]; omega⟩
      · obtain rfl : j = n := by omega
        have tj : decide ((j : Int) < (j : Int)) = false := by rw [decide_eq_false_iff_not]; omega
        go_wp2_with fail
        go_ret
        exact ⟨rfl, hbr⟩
end Go.Proofs.YthilkpjdfjjikaaDoor
end
section
/-
  law18.first, and TreeParses; walked.
-/
namespace Go.Proofs.YthilkpjdfjjikaaDoor
open Go.RowKit

/-- "{{if a}}x{{else}}y{{end}}", "a{{end}}". -/
def firstC : Bs := [123, 123, 105, 102, 32, 97, 125, 125, 120, 123, 123, 101, 108, 115, 101, 125, 125, 121, 123, 123, 101, 110, 100, 125, 125]
def firstD : Bs := [97, 123, 123, 101, 110, 100, 125, 125]
def firstT : List Part := [.mk ⟨4, 0, [], [[97]], [], 0⟩ [.mk ⟨0, 8, [120], [], [], 0⟩ [] []] [.mk ⟨0, 17, [121], [], [], 0⟩ [] []]]
theorem f_parC : parseL firstC = ⟨firstT, 0, 0⟩ := by kernel_rfl
theorem f_parD : parseL firstD = ⟨[], 1, 180⟩ := by kernel_rfl
set_option maxHeartbeats 4000000 in
set_option maxRecDepth 100000 in
theorem firstT_any (w : World) (hT : Tabs w) : Calls Tryd.prog 15 #[] w fun e w' => e = .returned (.bool true) ∧ Below w.heap.size w w' := by
  have HT := Lib.hid hT; clear hT
  have H1 := Lib.hid (parse_any firstC w HT.out)
  rw [f_parC] at H1
  have H2 := Lib.hid (fun W hb => parse_any firstD W (HT.out.below hb))
  rw [f_parD] at H2
  have HD : Hid (deps firstT = 1 ∧ sizes firstT < 100) := by constructor <;> decide
  have H1' : Hid (Calls Tryd.prog 16 #[.string ⟨#[123, 123, 105, 102, 32, 97, 125, 125, 120, 123, 123, 101, 108, 115, 101, 125, 125, 121, 123, 123, 101, 110, 100, 125, 125]⟩] w fun e w' => ∃ v, e = .returned (.tuple #[v, .int .i64 0, .int .i64 0]) ∧ VRd w' (fun b => b < w'.heap.size) v firstT ∧ Below w.heap.size w w') := H1
  have H2' : Hid (∀ W, Below w.heap.size w W → Calls Tryd.prog 16 #[.string ⟨#[97, 123, 123, 101, 110, 100, 125, 125]⟩] W fun e w' => ∃ v, e = .returned (.tuple #[v, .int .i64 1, .int .i64 180]) ∧ VRd w' (fun b => b < w'.heap.size) v [] ∧ Below W.heap.size W w') := H2
  clear H1 H2
  go_enter Tryd.func15, Tryd.ntmps15
  go_wp2_with fail
  refine H1'.out.mono ?_
  rintro e w1 ⟨v1, rfl, hv1, hb1⟩
  have HV1 := Lib.hid hv1; have HB1 := Lib.hid hb1
  clear hv1 hb1
  go_wp2_with fail
  refine (H2'.out _ HB1.out).mono ?_
  rintro e w2 ⟨v2, rfl, hv2, hb2⟩
  have HB2 := Lib.hid hb2
  clear hv2 hb2
  have hv := HV1.out.below HB2.out (fun _ h => h)
  have hb := HB1.out.trans (HB2.out.mono HB1.out.size)
  have HB := Lib.hid hb
  have h21 := depth_any 100 firstT _ v1 w2 HD.out.2 (by decide) hv (fun b h => by have := HB2.out.size; omega)
  rw [HD.out.1] at h21
  have H21 : Hid (Calls Tryd.prog 21 #[v1] w2 fun e w' => e = .returned (.int .i64 1) ∧ Below w2.heap.size w2 w') := h21
  obtain ⟨A, c, rfl, hc, _⟩ := id hv
  have hv' : VRd w2 (fun b => b < w1.heap.size) (.slice A 1 c) firstT := hv
  obtain ⟨b, off, p, ks, os, Av, cv, Ak, ck, Ao, co, rfl, hbl, hq, hcell, _, hks, hos⟩ := VRd.part (n := 1) (ps := firstT) rfl hv' 0 (by decide)
  have hq : firstT[0]? = some (.mk p ks os) := hq
  unfold firstT at hq
  simp only [List.getElem?_cons_zero, Option.some.injEq, Part.mk.injEq] at hq
  obtain ⟨rfl, rfl, rfl⟩ := hq
  have e6 := hcell 6 (by decide); have e7 := hcell 7 (by decide)
  obtain ⟨b2, off2, p2, ks2, os2, Av2, cv2, Ak2, ck2, Ao2, co2, rfl, hbl2, hq2, hcell2, _, _, _⟩ := VRd.part (n := 1) (ps := [.mk ⟨0, 17, [121], [], [], 0⟩ [] []]) rfl hos 0 (by decide)
  simp only [List.getElem?_cons_zero, Option.some.injEq, Part.mk.injEq] at hq2
  obtain ⟨rfl, rfl, rfl⟩ := hq2
  have f2 := hcell2 2 (by decide)
  simp only [ptc, List.getElem?_cons_zero, List.getElem?_cons_succ, Nat.zero_mul, Nat.add_zero, List.length_singleton] at e6 e7 f2
  have hc1 : 1 ≤ c := hc
  have hy : (bs [121]).toList = [121] := bs_toList _
  have H21 : Hid (Calls Tryd.prog 21 #[.slice (some ⟨b, off, none⟩) 1 c] w2 fun e w' => e = .returned (.int .i64 1) ∧ Below w2.heap.size w2 w') := H21
  clear h21 hv hv' hq hcell hcell2 hks hos hb hc HV1 HD
  go_wp2_with (go_at_call 21; refine H21.out.mono ?_; rintro e w3 ⟨rfl, hb3⟩)
  go_ret
  exact ⟨rfl, HB.out.trans (hb3.mono HB.out.size)⟩
end Go.Proofs.YthilkpjdfjjikaaDoor
end
section
/-
  law18.TreeParses, walked.
-/
namespace Go.Proofs.YthilkpjdfjjikaaDoor
open Go.RowKit

theorem lexL_big (s : Bs) (h : 20000 < s.length) : lexL s = ⟨[], 20000, 72⟩ := by unfold lexL; rw [if_pos h]
theorem parseL_sz (s : Bs) : sizes (parseL s).out ≤ 120000 := by
  unfold parseL
  by_cases h : (lexL s).err ≠ 0
  · rw [if_pos h]; exact Nat.zero_le _
  · rw [if_neg h]
    have hs : s.length ≤ 20000 := by
      refine Nat.le_of_not_lt (fun h2 => h ?_)
      rw [lexL_big s h2]; decide
    obtain ⟨h1, h2, _⟩ := lexL_small s hs
    have h3 := nestL_sz ((lexL s).out.map toPc) s.length 5 (fun p hp => by
      obtain ⟨q, hq, rfl⟩ := List.mem_map.1 hp
      exact h2 q hq)
    rw [List.length_map] at h3
    omega
set_option maxHeartbeats 4000000 in
set_option maxRecDepth 100000 in
theorem lexR_big (s : Bs) (w : World) (h : 20000 < s.length) (hl : s.length ≤ maxLen) :
    Calls Tryd.prog 13 #[.string (bs s)] w fun e w' => e = .returned (.tuple #[.slice none 0 0, .int .i64 20000, .int .i64 72]) ∧ w' = w := by
  unfold maxLen at hl
  have hz : (bs s).size = s.length := bs_size s
  have t1 : decide ((s.length : Int) > 20000) = true := by rw [decide_eq_true_eq]; omega
  go_enter Tryd.func13, Tryd.ntmps13
  go_wp2_with fail
  go_ret3
  exact ⟨rfl, rfl⟩
set_option maxHeartbeats 4000000 in
set_option maxRecDepth 100000 in
theorem parseR_all (s : Bs) (w : World) (hl : s.length ≤ maxLen) :
    Calls Tryd.prog 17 #[.string (bs s)] w fun e w' => ∃ v, e = .returned (.tuple #[v, .int .i64 (parseL s).pos, .int .i64 (parseL s).err]) ∧ VRd w' (fun b => b < w'.heap.size) v (parseL s).out ∧ Below w.heap.size w w' := by
  by_cases h : 20000 < s.length
  · have hr : parseL s = ⟨[], 20000, 72⟩ := by unfold parseL; rw [lexL_big s h]; rfl
    rw [hr]
    have H13 := Lib.hid (lexR_big s w h hl)
    have hz : (bs s).size = s.length := bs_size s
    go_enter Tryd.func17, Tryd.ntmps17
    go_wp2_with (go_at_call 13; refine H13.out.mono ?_; rintro e w1 ⟨rfl, rfl⟩)
    go_ret3
    exact ⟨_, rfl, VRd.nil, Below.refl _ _⟩
  · exact parseR_any s w (by omega)
set_option maxHeartbeats 4000000 in
set_option maxRecDepth 100000 in
theorem parses_any (s : Bs) (w : World) (hT : Tabs w) (hs : s.length ≤ maxLen) :
    Calls Tryd.prog 6 #[.string (bs s)] w fun e w' => e = .returned (.bool true) ∧ Below w.heap.size w w' := by
  have hz : (bs s).size = s.length := bs_size s
  have HF := Lib.hid (firstT_any w hT)
  have H16 := Lib.hid (fun W hW => parse_any s W hW)
  have H17 := Lib.hid (fun W => parseR_all s W hs)
  have HSZ := Lib.hid (parseL_sz s)
  have HT := Lib.hid hT
  unfold maxLen at hs
  obtain ⟨R, hR⟩ : ∃ R, R = parseL s := ⟨_, rfl⟩
  simp only [← hR] at H16 H17 HSZ
  obtain ⟨S, hS⟩ : ∃ S, S = bs s := ⟨_, rfl⟩
  simp only [← hS] at H16 H17 hz ⊢
  clear hS hR hT
  obtain ⟨n, hn⟩ : ∃ n, n = s.length := ⟨_, rfl⟩
  rw [← hn] at hz hs
  clear hn
  obtain ⟨out, pos, err⟩ := R
  dsimp only at H16 H17 HSZ
  by_cases h3 : 3000 < n
  · have t1 : decide ((n : Int) > 3000) = true := by rw [decide_eq_true_eq]; omega
    by_cases h20 : n ≤ 20000
    · have t2 : decide ((n : Int) ≤ 20000) = true := by rw [decide_eq_true_eq]; omega
      go_enter Tryd.func6, Tryd.ntmps6
      go_wp2_with (go_at_call 15; refine HF.out.mono ?_; rintro e w1 ⟨rfl, b1⟩)
      go_ret
      exact ⟨rfl, b1⟩
    · have t2 : decide ((n : Int) ≤ 20000) = false := by rw [decide_eq_false_iff_not]; omega
      go_enter Tryd.func6, Tryd.ntmps6
      go_wp2_with (go_at_call 15; refine HF.out.mono ?_; rintro e w1 ⟨rfl, b1⟩)
      refine (H16.out _ (HT.out.below b1)).mono ?_
      rintro e w2 ⟨v, rfl, hp, b2⟩
      have HP := Lib.hid hp
      clear hp
      go_wp2_with (go_at_call 17; refine (H17.out _).mono ?_; rintro e w3 ⟨v', rfl, hp', b3⟩)
      have hs1 := b1.size
      have hs2 := b2.size
      have hs3 := b3.size
      have H18 := Lib.hid (sameT_any 120001 out _ _ v v' w3 (by have := HSZ.out; omega) (by decide) (HP.out.below b3 (fun _ h => h)) hp' (fun b h => by omega) (fun b h => h))
      have bb : Below w.heap.size w w3 := (b1.trans (b2.mono hs1)).trans (b3.mono (by omega))
      go_wp2_with (go_at_call 18; refine H18.out.mono ?_; rintro e w4 ⟨rfl, b4⟩)
      go_ret
      exact ⟨rfl, bb.trans (b4.mono (by omega))⟩
  · have t1 : decide ((n : Int) > 3000) = false := by rw [decide_eq_false_iff_not]; omega
    go_enter Tryd.func6, Tryd.ntmps6
    go_wp2_with (go_at_call 15; refine HF.out.mono ?_; rintro e w1 ⟨rfl, b1⟩)
    refine (H16.out _ (HT.out.below b1)).mono ?_
    rintro e w2 ⟨v, rfl, hp, b2⟩
    have HP := Lib.hid hp
    clear hp
    go_wp2_with (go_at_call 17; refine (H17.out _).mono ?_; rintro e w3 ⟨v', rfl, hp', b3⟩)
    have hs1 := b1.size
    have hs2 := b2.size
    have hs3 := b3.size
    have H18 := Lib.hid (sameT_any 120001 out _ _ v v' w3 (by have := HSZ.out; omega) (by decide) (HP.out.below b3 (fun _ h => h)) hp' (fun b h => by omega) (fun b h => h))
    have bb : Below w.heap.size w w3 := (b1.trans (b2.mono hs1)).trans (b3.mono (by omega))
    go_wp2_with (go_at_call 18; refine H18.out.mono ?_; rintro e w4 ⟨rfl, b4⟩)
    go_ret
    exact ⟨rfl, bb.trans (b4.mono (by omega))⟩
end Go.Proofs.YthilkpjdfjjikaaDoor
end
section
/-
  law18.TreeNests, walked.
-/
namespace Go.Proofs.YthilkpjdfjjikaaDoor
open Go.RowKit

set_option maxHeartbeats 4000000 in
set_option maxRecDepth 100000 in
theorem nests_any (ps : List Pc) (size : Int) (v : Value) (w : World) (hT : Tabs w) (h : PcsRd w (fun b => b < w.heap.size) v ps) (hp : ∀ p ∈ ps, p.path.length ≤ 8796093022208) (hl : ps.length ≤ 8796093022208) :
    Calls Tryd.prog 7 #[v, .int .i64 size] w fun e w' => e = .returned (.bool true) ∧ Below w.heap.size w w' := by
  have HF := Lib.hid (firstT_any w hT)
  have H19 := Lib.hid (fun (hs : ps.length ≤ 200) (W : World) (hb : Below w.heap.size w W) => nest_any ps size (fun b => b < w.heap.size) v W (h.below hb (fun _ h => h)) (fun b h => by have := hb.size; omega) (by omega) hp)
  have H20 := Lib.hid (fun (hs : ps.length ≤ 200) (W : World) (hb : Below w.heap.size w W) => nestR_any ps size (fun b => b < w.heap.size) v W (h.below hb (fun _ h => h)) (fun b h => by have := hb.size; omega) (by omega))
  have hsz := nestL_sz ps size 8796093022208 hp
  have herr := nestL_err ps size
  obtain ⟨A, c, rfl, hc, _⟩ := id h
  obtain ⟨R, hR⟩ : ∃ R, R = nestL ps size := ⟨_, rfl⟩
  rw [← hR] at H19 H20 hsz herr
  clear hR hT h
  obtain ⟨n, hn⟩ : ∃ n, n = ps.length := ⟨_, rfl⟩
  rw [← hn] at H19 H20 hsz hl hc ⊢
  clear hn hp
  obtain ⟨out, pos, err⟩ := R
  dsimp only at H19 H20 hsz herr
  by_cases h3 : 200 < n
  · have t1 : decide ((n : Int) > 200) = true := by rw [decide_eq_true_eq]; omega
    clear H19 H20 hsz herr
    go_enter Tryd.func7, Tryd.ntmps7
    go_wp2_with (go_at_call 15; refine HF.out.mono ?_; rintro e w1 ⟨rfl, b1⟩)
    go_ret
    exact ⟨rfl, b1⟩
  · have t1 : decide ((n : Int) > 200) = false := by rw [decide_eq_false_iff_not]; omega
    have hsz2 : sizes out < 10000000000000000 := by
      have : n * (1 + 8796093022208) ≤ 200 * (1 + 8796093022208) := Nat.mul_le_mul_right _ (by omega)
      omega
    have HSZ := Lib.hid hsz2
    have h19 := H19.out (by omega)
    have h20 := H20.out (by omega)
    have H19' := Lib.hid h19; have H20' := Lib.hid h20
    clear hsz hsz2 H19 H20 h19 h20
    rcases herr with ⟨rfl, rfl⟩ | ⟨rfl, rfl⟩
    · have H19 : Hid (∀ W : World, Below w.heap.size w W → Calls Tryd.prog 19 #[.slice A n c, .int .i64 size] W fun e w' => ∃ v, e = .returned (.tuple #[v, .int .i64 0, .int .i64 0]) ∧ VRd w' (fun b => b < w'.heap.size) v out ∧ Below W.heap.size W w') := H19'
      have H20 : Hid (∀ W : World, Below w.heap.size w W → Calls Tryd.prog 20 #[.slice A n c, .int .i64 size] W fun e w' => ∃ v, e = .returned (.tuple #[v, .int .i64 0, .bool true]) ∧ VRd w' (fun b => b < w'.heap.size) v out ∧ Below W.heap.size W w') := H20'
      clear H19' H20'
      go_enter Tryd.func7, Tryd.ntmps7
      go_wp2_with (go_at_call 15; refine HF.out.mono ?_; rintro e w1 ⟨rfl, b1⟩)
      refine (H19.out _ b1).mono ?_
      rintro e w2 ⟨v, rfl, hp, b2⟩
      have hs1 := b1.size
      have hs2 := b2.size
      have HP := Lib.hid hp; have B12 := Lib.hid (b1.trans (b2.mono hs1))
      clear hp
      go_wp2_with (go_at_call 20; refine (H20.out _ B12.out).mono ?_; rintro e w3 ⟨v', rfl, hp', b3⟩)
      have hs3 := b3.size
      have H18 := Lib.hid (sameT_any 10000000000000000 out _ _ v v' w3 HSZ.out (by decide) (HP.out.below b3 (fun _ h => h)) hp' (fun b h => by omega) (fun b h => h))
      have bb : Below w.heap.size w w3 := B12.out.trans (b3.mono (by omega))
      go_wp2_with (go_at_call 18; refine H18.out.mono ?_; rintro e w4 ⟨rfl, b4⟩)
      go_ret
      exact ⟨rfl, bb.trans (b4.mono (by omega))⟩
    · have H19 : Hid (∀ W : World, Below w.heap.size w W → Calls Tryd.prog 19 #[.slice A n c, .int .i64 size] W fun e w' => ∃ v, e = .returned (.tuple #[v, .int .i64 pos, .int .i64 180]) ∧ VRd w' (fun b => b < w'.heap.size) v [] ∧ Below W.heap.size W w') := H19'
      have H20 : Hid (∀ W : World, Below w.heap.size w W → Calls Tryd.prog 20 #[.slice A n c, .int .i64 size] W fun e w' => ∃ v, e = .returned (.tuple #[v, .int .i64 pos, .bool false]) ∧ VRd w' (fun b => b < w'.heap.size) v [] ∧ Below W.heap.size W w') := H20'
      clear H19' H20'
      go_enter Tryd.func7, Tryd.ntmps7
      go_wp2_with (go_at_call 15; refine HF.out.mono ?_; rintro e w1 ⟨rfl, b1⟩)
      refine (H19.out _ b1).mono ?_
      rintro e w2 ⟨v, rfl, hp, b2⟩
      have hs1 := b1.size
      have hs2 := b2.size
      have HP := Lib.hid hp; have B12 := Lib.hid (b1.trans (b2.mono hs1))
      clear hp
      go_wp2_with (go_at_call 20; refine (H20.out _ B12.out).mono ?_; rintro e w3 ⟨v', rfl, hp', b3⟩)
      have hs3 := b3.size
      have H18 := Lib.hid (sameT_any 1 [] _ _ v v' w3 (by simp [sizes]) (by decide) (HP.out.below b3 (fun _ h => h)) hp' (fun b h => by omega) (fun b h => h))
      have bb : Below w.heap.size w w3 := B12.out.trans (b3.mono (by omega))
      go_wp2_with (go_at_call 18; refine H18.out.mono ?_; rintro e w4 ⟨rfl, b4⟩)
      go_ret
      exact ⟨rfl, bb.trans (b4.mono (by omega))⟩
end Go.Proofs.YthilkpjdfjjikaaDoor
end
