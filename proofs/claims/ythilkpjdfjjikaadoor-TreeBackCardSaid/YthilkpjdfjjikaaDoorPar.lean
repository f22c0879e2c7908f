/-
  Nest of the document, Parse of both; walked.
-/
import Derived.Test.YthilkpjdfjjikaaDoorBlo
import Derived.Test.YthilkpjdfjjikaaDoorSamM
set_option linter.unusedVariables false
set_option linter.unusedSimpArgs false
namespace Go.Proofs.YthilkpjdfjjikaaDoor
open Go.RowKit

theorem nestL_err (ps : List Pc) (size : Int) : ((nestL ps size).err = 0 ∧ (nestL ps size).pos = 0) ∨ ((nestL ps size).err = 180 ∧ (nestL ps size).out = []) := by
  unfold nestL
  generalize (⟨[], []⟩ : NSt) = s
  induction ps generalizing s with
  | nil =>
    unfold nestFrom
    split
    · exact .inl ⟨rfl, rfl⟩
    · exact .inr ⟨rfl, rfl⟩
  | cons p l ih =>
    unfold nestFrom
    cases takeS s p with
    | none => exact .inr ⟨rfl, rfl⟩
    | some s' => exact ih s'
set_option maxHeartbeats 4000000 in
set_option maxRecDepth 100000 in
theorem nestR_any (ps : List Pc) (size : Int) (P : Nat → Prop) (v : Value) (w : World) (h : PcsRd w P v ps) (hP : ∀ b, P b → b < w.heap.size) (hn : ps.length ≤ 900000) :
    Calls Tryd.prog 20 #[v, .int .i64 size] w fun e w' => ∃ v', e = .returned (.tuple #[v', .int .i64 (nestL ps size).pos, .bool (decide ((nestL ps size).err = 0))]) ∧ VRd w' (fun b => b < w'.heap.size) v' (nestL ps size).out ∧ Below w.heap.size w w' := by
  have hrd := h
  obtain ⟨A, c, rfl, hc, _⟩ := h
  have h37 := blockR_any (ps.length + 1) (ps.length + 1) ps 0 0 P (.slice A ps.length c) w (Nat.le_refl _) hrd hP hn (by omega) (Nat.zero_le _) (Nat.zero_le _)
  have hrg := block_range ps (ps.length + 1) 0 0 (by omega) (Nat.zero_le _) (Nat.zero_le _)
  have hD := nestD_eq ps size
  unfold nestD at hD
  obtain ⟨b, hb⟩ : ∃ b, b = blockL (ps.length + 1) ps 0 0 [] := ⟨_, rfl⟩
  rw [← hb] at h37 hrg hD
  obtain ⟨R, hR⟩ : ∃ R, R = nestL ps size := ⟨_, rfl⟩
  rw [← hR] at hD ⊢
  have HD := Lib.hid hD; have HP := Lib.hid hP
  obtain ⟨n, hne⟩ : ∃ n, n = ps.length := ⟨_, rfl⟩
  rw [← hne] at hn hc hrd h37 hrg HD ⊢
  have H37 : Hid (Calls Tryd.prog 37 #[.slice A n c, .int .i64 0, .int .i64 0] w (BlockPost w P b)) := h37
  have Hn := Lib.hid hne; have H := Lib.hid hrd; have HRG := Lib.hid hrg
  clear hP hb hR hD hne hrd h37 hrg
  obtain ⟨bo, bk, bbad⟩ := b
  dsimp only at HD HRG
  go_enter Tryd.func20, Tryd.ntmps20
  go_upto_region 2 with (go_at_call 37; refine H37.out.mono ?_; rintro e w1 ⟨v1, rfl, hv1, hb1⟩; have HV1 := Lib.hid hv1; have HB1 := Lib.hid hb1; clear hv1 hb1)
  have hs1 := HB1.out.size
  by_cases hbb : 0 ≤ bbad
  · have hle := HRG.out.1 hbb
    have hr := HD.out
    rw [if_pos hbb] at hr
    have t1 : decide (bbad < 0) = false := by rw [decide_eq_false_iff_not]; omega
    have t3 : decide (bbad ≥ 0) = true := decide_eq_true hbb
    unfold badAt at hr
    by_cases hbn : bbad = n
    · rw [if_pos (by rw [← Hn.out]; exact hbn)] at hr
      have HRf := Lib.hid hr
      have t2 : (bbad == (n : Int)) = true := by rw [beq_iff_eq]; exact hbn
      clear hr hbn
      go_wp2_with fail
      go_ret3
      exact ⟨_, by rw [← HRf.out]; rfl, by rw [← HRf.out]; exact VRd.nil, HB1.out⟩
    · rw [if_neg (by rw [← Hn.out]; exact hbn)] at hr
      have HRf := Lib.hid hr
      have t2 : (bbad == (n : Int)) = false := by rw [beq_eq_false_iff_ne]; exact hbn
      obtain ⟨j, hj⟩ : ∃ j : Nat, bbad = j := ⟨bbad.toNat, by omega⟩
      have hjn : j < n := by omega
      obtain ⟨bb, off, A', c', rfl, hPb, hcell, _, _⟩ := (H.out.below HB1.out HP.out).cells Hn.out j hjn
      have e1 := hcell 1 (by decide)
      simp only [pcc, List.getElem?_cons_zero, List.getElem?_cons_succ] at e1
      have hRp : R = ⟨[], (pcAt ps j).pos, 180⟩ := by rw [← HRf.out, hj]; rfl
      have HRp := Lib.hid hRp
      clear hr hbn hcell hRp HRf HRG HD hbb hle
      subst hj
      go_upto_region 7 with (fail)
      go_quiet (fail)
      go_wp2_with fail
      go_ret3
      exact ⟨_, by rw [HRp.out]; rfl, by rw [HRp.out]; exact VRd.nil, HB1.out.trans ⟨rfl, rfl, rfl, Nat.le_refl _, fun _ _ => rfl⟩⟩
  · have hrg := HRG.out.2 (by omega)
    obtain ⟨_, hk2, hk3⟩ := hrg
    have HK3 := Lib.hid hk3
    have hr := HD.out
    rw [if_neg hbb] at hr
    have t1 : decide (bbad < 0) = true := by rw [decide_eq_true_eq]; omega
    clear HD hk3
    by_cases hkn : bk < n
    · rw [if_pos hkn] at hr
      have tk : decide ((bk : Int) < (n : Int)) = true := by rw [decide_eq_true_eq]; omega
      unfold badAt at hr
      rw [if_neg (by rw [← Hn.out]; omega), Int.toNat_natCast] at hr
      have HRf := Lib.hid hr
      have tkn : ((bk : Int) == (n : Int)) = false := by rw [beq_eq_false_iff_ne]; omega
      have tge : decide ((bk : Int) ≥ 0) = true := by rw [decide_eq_true_eq]; omega
      obtain ⟨bb, off, A', c', rfl, hPb, hcell, _, _⟩ := (H.out.below HB1.out HP.out).cells Hn.out bk hkn
      have e1 := hcell 1 (by decide)
      simp only [pcc, List.getElem?_cons_zero, List.getElem?_cons_succ] at e1
      clear hr hcell HK3
      go_upto_region 7 with (fail)
      go_quiet (fail)
      go_wp2_with fail
      go_ret3
      exact ⟨_, by rw [← HRf.out]; rfl, by rw [← HRf.out]; exact VRd.nil, HB1.out.trans ⟨rfl, rfl, rfl, Nat.le_refl _, fun _ _ => rfl⟩⟩
    · rw [if_neg hkn] at hr
      have HRf := Lib.hid hr
      have tk : decide ((bk : Int) < (n : Int)) = false := by rw [decide_eq_false_iff_not]; omega
      have tge : decide (bbad ≥ 0) = false := by rw [decide_eq_false_iff_not]; exact hbb
      have tbn : (bbad == (n : Int)) = false := by rw [beq_eq_false_iff_ne]; omega
      clear hr HK3
      go_wp2_with fail
      go_ret3
      refine ⟨_, by rw [← HRf.out]; rfl, ?_, HB1.out⟩
      rw [← HRf.out]
      exact HV1.out.frame (fun _ _ => rfl) (fun b hb => by rcases hb with h | h; have := HP.out b h; omega; exact h.2)
/-- A template's parts; the place and the error. -/
def parseL (s : Bs) : NR := if (lexL s).err ≠ 0 then ⟨[], ((lexL s).pos : Int), ((lexL s).err : Int)⟩ else nestL ((lexL s).out.map toPc) s.length
theorem lex_ok_small (s : Bs) (h : (lexL s).err = 0) : ((lexL s).out.map toPc).length ≤ 900000 ∧ ∀ p ∈ (lexL s).out.map toPc, p.path.length ≤ 8796093022208 := by
  have hs : s.length ≤ 20000 := by
    refine Nat.le_of_not_lt (fun h2 => ?_)
    unfold lexL at h
    rw [if_pos h2] at h
    exact absurd h (show (72 : Nat) ≠ 0 by decide)
  obtain ⟨h1, h2, _⟩ := lexL_small s hs
  refine ⟨by rw [List.length_map]; omega, fun p hp => ?_⟩
  obtain ⟨q, hq, rfl⟩ := List.mem_map.1 hp
  have := h2 q hq
  show q.path.length ≤ _
  omega
set_option maxHeartbeats 4000000 in
set_option maxRecDepth 100000 in
theorem parse_any (s : Bs) (w : World) (hT : Tabs w) :
    Calls Tryd.prog 16 #[.string (bs s)] w fun e w' => ∃ v, e = .returned (.tuple #[v, .int .i64 (parseL s).pos, .int .i64 (parseL s).err]) ∧ VRd w' (fun b => b < w'.heap.size) v (parseL s).out ∧ Below w.heap.size w w' := by
  have hz : (bs s).size = s.length := bs_size s
  have H12 := Lib.hid (lex_any s w hT)
  obtain ⟨R, hR⟩ : ∃ R, R = parseL s := ⟨_, rfl⟩
  rw [← hR]
  unfold parseL at hR
  have hsm := lex_ok_small s
  obtain ⟨L, hL⟩ : ∃ L, L = lexL s := ⟨_, rfl⟩
  rw [← hL] at hR H12 hsm
  have HR := Lib.hid hR; have HSM := Lib.hid hsm
  obtain ⟨S, hS⟩ : ∃ S, S = bs s := ⟨_, rfl⟩
  rw [← hS] at hz H12 ⊢
  clear hS hL hR hsm
  obtain ⟨n, hn⟩ : ∃ n, n = s.length := ⟨_, rfl⟩
  rw [← hn] at hz HR
  clear hn
  obtain ⟨out, pos, err⟩ := L
  dsimp only at HR H12 HSM
  go_enter Tryd.func16, Tryd.ntmps16
  by_cases he : err = 0
  · subst he
    have hr := HR.out
    rw [if_neg (by simp)] at hr
    have HRf := Lib.hid hr
    obtain ⟨hm1, hm2⟩ := HSM.out rfl
    have HM1 := Lib.hid hm1; have HM2 := Lib.hid hm2
    clear hr HR HSM hm1 hm2
    have H12 : Hid (Calls Tryd.prog 12 #[.string S] w fun e w' => ∃ v, e = .returned (.tuple #[v, .int .i64 ((pos : Nat) : Int), .int .i64 0]) ∧ PRow w' w.heap.size v out ∧ Below w.heap.size w w') := H12
    go_wp2_with (go_at_call 12; refine H12.out.mono ?_; rintro e w1 ⟨v1, rfl, hp1, hb1⟩; have H19 := Lib.hid (nest_any (out.map toPc) (n : Int) (fun b => b < w1.heap.size) v1 w1 (hp1.pcs _ (fun b _ h => h)) (fun b h => h) HM1.out HM2.out); rw [← HRf.out] at H19; have HB1 := Lib.hid hb1; clear hp1 hb1)
    refine H19.out.mono ?_
    rintro e w2 ⟨v2, rfl, hv2, hb2⟩
    have HV2 := Lib.hid hv2; have HB2 := Lib.hid hb2
    clear hv2 hb2
    go_wp2_with fail
    go_ret3
    exact ⟨_, rfl, HV2.out, HB1.out.trans (HB2.out.mono HB1.out.size)⟩
  · have hr := HR.out
    rw [if_pos he] at hr
    have HRf := Lib.hid hr
    have te : ((err : Int) != 0) = true := by rw [bne_iff_ne]; omega
    clear hr HR HSM he
    go_wp2_with (go_at_call 12; refine H12.out.mono ?_; rintro e w1 ⟨v1, rfl, hp1, hb1⟩; have HB1 := Lib.hid hb1; clear hp1 hb1)
    go_ret3
    exact ⟨_, by rw [HRf.out]; rfl, by rw [HRf.out]; exact VRd.nil, HB1.out⟩
set_option maxHeartbeats 4000000 in
set_option maxRecDepth 100000 in
theorem parseR_any (s : Bs) (w : World) (hl : s.length ≤ 800000) :
    Calls Tryd.prog 17 #[.string (bs s)] w fun e w' => ∃ v, e = .returned (.tuple #[v, .int .i64 (parseL s).pos, .int .i64 (parseL s).err]) ∧ VRd w' (fun b => b < w'.heap.size) v (parseL s).out ∧ Below w.heap.size w w' := by
  have hz : (bs s).size = s.length := bs_size s
  have H12 := Lib.hid (lexR_any s w hl)
  obtain ⟨R, hR⟩ : ∃ R, R = parseL s := ⟨_, rfl⟩
  rw [← hR]
  unfold parseL at hR
  have hsm := lex_ok_small s
  obtain ⟨L, hL⟩ : ∃ L, L = lexL s := ⟨_, rfl⟩
  rw [← hL] at hR H12 hsm
  have HR := Lib.hid hR; have HSM := Lib.hid hsm
  obtain ⟨S, hS⟩ : ∃ S, S = bs s := ⟨_, rfl⟩
  rw [← hS] at hz H12 ⊢
  clear hS hL hR hsm
  obtain ⟨n, hn⟩ : ∃ n, n = s.length := ⟨_, rfl⟩
  rw [← hn] at hz HR
  clear hn
  obtain ⟨out, pos, err⟩ := L
  dsimp only at HR H12 HSM
  go_enter Tryd.func17, Tryd.ntmps17
  by_cases he : err = 0
  · subst he
    have hr := HR.out
    rw [if_neg (by simp)] at hr
    have HRf := Lib.hid hr
    obtain ⟨hm1, hm2⟩ := HSM.out rfl
    have HM1 := Lib.hid hm1; have HM2 := Lib.hid hm2
    clear hr HR HSM hm1 hm2
    have H12 : Hid (Calls Tryd.prog 13 #[.string S] w fun e w' => ∃ v, e = .returned (.tuple #[v, .int .i64 ((pos : Nat) : Int), .int .i64 0]) ∧ PRow w' w.heap.size v out ∧ Below w.heap.size w w') := H12
    go_wp2_with (go_at_call 13; refine H12.out.mono ?_; rintro e w1 ⟨v1, rfl, hp1, hb1⟩; have H19 := Lib.hid (nestR_any (out.map toPc) (n : Int) (fun b => b < w1.heap.size) v1 w1 (hp1.pcs _ (fun b _ h => h)) (fun b h => h) HM1.out); rw [← HRf.out] at H19; have HB1 := Lib.hid hb1; clear hp1 hb1)
    refine H19.out.mono ?_
    rintro e w2 ⟨v2, rfl, hv2, hb2⟩
    have HV2 := Lib.hid hv2; have HB2 := Lib.hid hb2
    clear hv2 hb2
    have hre := nestL_err (out.map toPc) (n : Int)
    rw [← HRf.out] at hre
    rcases hre with ⟨h0, hps⟩ | ⟨h1, h2⟩
    · have t0 : decide (R.err = 0) = true := decide_eq_true h0
      have H0 := Lib.hid h0; have HPS := Lib.hid hps
      clear h0
      go_wp2_with fail
      go_ret3
      exact ⟨_, by rw [H0.out, HPS.out]; rfl, HV2.out, HB1.out.trans (HB2.out.mono HB1.out.size)⟩
    · have t0 : decide (R.err = 0) = false := by rw [decide_eq_false_iff_not, h1]; decide
      have HO := Lib.hid h2; have H1 := Lib.hid h1
      clear h1 h2
      go_wp2_with fail
      go_ret3
      exact ⟨_, by rw [H1.out]; rfl, by rw [HO.out]; exact VRd.nil, HB1.out.trans (HB2.out.mono HB1.out.size)⟩
  · have hr := HR.out
    rw [if_pos he] at hr
    have HRf := Lib.hid hr
    have te : ((err : Int) != 0) = true := by rw [bne_iff_ne]; omega
    clear hr HR HSM he
    go_wp2_with (go_at_call 13; refine H12.out.mono ?_; rintro e w1 ⟨v1, rfl, hp1, hb1⟩; have HB1 := Lib.hid hb1; clear hp1 hb1)
    go_ret3
    exact ⟨_, by rw [HRf.out]; rfl, by rw [HRf.out]; exact VRd.nil, HB1.out⟩
end Go.Proofs.YthilkpjdfjjikaaDoor
