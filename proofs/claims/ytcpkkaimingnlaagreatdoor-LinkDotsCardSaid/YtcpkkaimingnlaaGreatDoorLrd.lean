/-
  The document's Dots.
-/
import Derived.Test.YtcpkkaimingnlaaGreatDoorLsp
import Derived.Test.YtcpkkaimingnlaaGreatDoorLbw
namespace Go.Proofs.YtcpkkaimingnlaaGreatDoor
open Go.RowKit

/-- 'append(out, l...)', both rows of texts. -/
theorem wpList_appendS {w : World} {ops : Array Oper} {rest : List Oper} {o : Oper} {a : Act} {Q : Exit → Act → World → Prop} (hgd : o.guard = none) (s x : Operand)
    (ho : o.op = .call { callee := .builtin .append, args := #[s, x], argTypes := #[38, 38] })
    (B : Nat) (hB : B ≤ w.heap.size) (out l2 : List Bs) (v : Value) (hs : a.eval s = v) (hv : SOwn w B v out) (B2 : Nat) (v2 : Value) (hx : a.eval x = v2) (hv2 : SOwn w B2 v2 l2) (hn : out.length + l2.length ≤ 8000000)
    (h : ∀ A c w', SOwn w' B (.slice A (out.length + l2.length) c) (out ++ l2) → Below B w w' → wpList Tryz.prog ops Q rest (a.put o.dst (.slice A (out.length + l2.length) c)) w') : wpList Tryz.prog ops Q (o :: rest) a w := by
  obtain ⟨A, c, rfl, hc, _, _⟩ := hv2.form
  have hrd : Rd w w.heap.size 1 A l2.length (strs l2) := Rd.of_own hv2
  refine wpList_appendRd hgd s x 38 ho B 9 _ 1 16 Tryz.underlying38 infoS rfl (by decide) v out.length _ hs hv w.heap.size A l2.length c _ hx hrd (strs_one l2) (by omega) (by omega) hB ?_
  intro A' cap w' hown hb _
  refine h _ _ w' ?_ hb
  unfold SOwn
  rw [List.length_append, show strs (out ++ l2) = strs out ++ strs l2 by simp [strs]]
  exact hown
theorem SOwn.empty (w : World) (B : Nat) (hB : B ≤ w.heap.size) : SOwn (w.alloc (.cells #[] 9)) B (.slice (some ⟨w.heap.size, 0, none⟩) 0 0) [] :=
  ⟨rfl, .inr ⟨w.heap.size, 0, #[], rfl, hB, heap_alloc_new w _, Nat.le_refl _, Nat.zero_le _, rfl, rfl⟩⟩
theorem SOwn.alloc {w : World} {B : Nat} {v : Value} {l : List Bs} (h : SOwn w B v l) (o : Obj) : SOwn (w.alloc o) B v l := h.keep (below_one w o)
/-- 'append([]string{}, l...)'. -/
theorem wpList_copyS {w : World} {ops : Array Oper} {rest : List Oper} {o : Oper} {a : Act} {Q : Exit → Act → World → Prop} (hgd : o.guard = none) (s x : Operand)
    (ho : o.op = .call { callee := .builtin .append, args := #[s, x], argTypes := #[38, 38] })
    (B : Nat) (hB : B ≤ w.heap.size) (l2 : List Bs) (hs : a.eval s = .slice (some ⟨w.heap.size, 0, none⟩) 0 0) (B2 : Nat) (v2 : Value) (hx : a.eval x = v2) (hv2 : SOwn w B2 v2 l2) (hn : l2.length ≤ 8000000)
    (h : ∀ A c w', SOwn w' B (.slice A l2.length c) l2 → Below B w w' → wpList Tryz.prog ops Q rest (a.put o.dst (.slice A l2.length c)) w') : wpList Tryz.prog ops Q (o :: rest) a (w.alloc (.cells #[] 9)) := by
  refine wpList_appendS hgd s x ho B (by simp; omega) [] l2 _ hs (SOwn.empty w B hB) B2 v2 hx (hv2.alloc _) (by simpa using hn) ?_
  intro A c w' h1 h2
  have e : ([] : List Bs).length + l2.length = l2.length := by simp
  rw [e] at h1 ⊢
  exact h A c w' h1 (((Below.refl B w).alloc hB _).trans h2)
def stepR (x : Bs) (out : List Bs) : List Bs := if x = d1 ∨ x = d2 then (if x = d2 then out.dropLast else out) else out ++ [x]
theorem dotsGoR_step (x : Bs) (t out : List Bs) (sl : Bool) : dotsGoR (x :: t) out sl = dotsGoR t (stepR x out) (decide (x = d1 ∨ x = d2)) := rfl
set_option maxHeartbeats 16000000 in
set_option maxRecDepth 100000 in
theorem rdots_any (p : Bs) (w : World) (hl : p.length ≤ 3000000) :
    Calls Tryz.prog 20 #[.string (bs p)] w fun e w' => e = .returned (.string (bs (dotsP p))) ∧ Below w.heap.size w w' := by
  by_cases h47 : ∃ r, p = 47 :: r
  · obtain ⟨r, rfl⟩ := h47
    have q1 : ((bs (47 :: r)).toList == []) = false := by rw [bs_toList]; rfl
    have q2 : (bs (47 :: r)).toList = [] ↔ False := by rw [bs_toList]; simp
    have q3 : (bs (47 :: r)).toList.isEmpty = false := by rw [bs_toList]; rfl
    have hx := str_byte (47 :: r) 0 (by simp)
    have hx : ∀ W, (Instr.index 9 (.string (bs (47 :: r))) (.int .i64 0)).run Tryz.prog W = .ok (.int .u8 47) W := hx
    have hfr := str_from (47 :: r) 1 (by simp)
    have hfr : ∀ W, (Instr.slice 9 (.string (bs (47 :: r))) (some (.int .i64 1)) none none).run Tryz.prog W = .ok (.string (bs r)) W := hfr
    rw [List.length_cons] at hl
    have hdl := dots_len (47 :: r)
    rw [← dotsR_eq] at hdl ⊢
    have hd : dotsR (47 :: r) = (if (if (dotsGoR (splitC 47 r) [] false).2 = true then (dotsGoR (splitC 47 r) [] false).1 ++ [[]] else (dotsGoR (splitC 47 r) [] false).1).flatMap (fun p => 47 :: p) = [] then [47] else (if (dotsGoR (splitC 47 r) [] false).2 = true then (dotsGoR (splitC 47 r) [] false).1 ++ [[]] else (dotsGoR (splitC 47 r) [] false).1).flatMap (fun p => 47 :: p)) := by
      rw [dotsR_cons, if_pos rfl]
    have hsp := Lib.hid (rsplit_any r 47 w (by omega))
    have hsl := split_len 47 r
    have hPne := splitC_ne 47 r
    obtain ⟨R, hR⟩ : ∃ R, R = dotsR (47 :: r) := ⟨_, rfl⟩
    rw [← hR] at hd hdl ⊢
    generalize bs (47 :: r) = S at *
    generalize bs r = S2 at *
    obtain ⟨D, hD⟩ : ∃ D, D = dotsGoR (splitC 47 r) [] false := ⟨_, rfl⟩
    rw [← hD] at hd
    generalize splitC 47 r = P at *
    obtain ⟨L, hL⟩ : ∃ L, L = (if D.2 = true then D.1 ++ [[]] else D.1) := ⟨_, rfl⟩
    rw [← hL] at hd
    rw [List.length_cons] at hdl
    have HD := Lib.hid hD; have HL := Lib.hid hL; have HR := Lib.hid hd
    clear hR hD hL hd
    go_enter Tryz.func20, Tryz.ntmps20
    go_upto_region 6 with (go_at_call 60; refine hsp.out.mono ?_; rintro e w1 ⟨vP, rfl, hoP, hb1⟩; obtain ⟨AP, cP, hvP, hcP, hcmP, hANP⟩ := hoP.form; subst hvP; have HoP := Lib.hid hoP; have HB1 := Lib.hid hb1; clear hoP hb1)
    obtain ⟨gP, rfl, hgB, hgP⟩ := own_some HoP.out (List.length_pos_iff.2 hPne)
    have hcell0 : ∀ j, j < P.length → w1.cell? ⟨gP, j, none⟩ = some (.string (bs (P.getD j []))) := fun j hj => by
      rw [HoP.out.cellAt j (by omega), strs_at P j hj]
    have HC0 := Lib.hid hcell0
    clear hcell0 hsp HoP q1 q2 q3 hx hfr
    go_loopw [3, 4, 22] (fun v sl i wr => ∃ (j : Nat) (O : List Bs) (b : Bool), i = .int .i64 (j : Int) ∧ sl = .bool b ∧ j ≤ P.length ∧ O.length ≤ j ∧ Hid (D = dotsGoR (P.drop j) O b) ∧ Hid (SOwn wr w1.heap.size v O) ∧ Hid (Below w1.heap.size w1 wr)) (fun _ _ i _ => P.length - (intOf i).toNat)
    case atStart => exact ⟨0, [], false, rfl, rfl, Nat.zero_le _, Nat.le_refl _, Lib.hid HD.out, Lib.hid SOwn.nil, Lib.hid (Below.refl _ _)⟩
    case round =>
      obtain ⟨j, O, b, rfl, rfl, hj, hO, HDj, HO, HB⟩ := hrel
      have hBs := HB.out.size
      obtain ⟨A, c, hv, hc, hcm, hAn⟩ := HO.out.form
      subst hv
      by_cases hjn : j < P.length
      · have tj : decide ((j : Int) < (P.length : Int)) = true := by rw [decide_eq_true_eq]; omega
        have hdr : P.drop j = P.getD j [] :: P.drop (j + 1) := by rw [List.drop_eq_getElem_cons hjn]; simp [hjn]
        have hcell : wr.cell? ⟨gP, j, none⟩ = some (.string (bs (P.getD j []))) := (HB.out.cell (p := ⟨gP, j, none⟩) hgP).trans (HC0.out j hjn)
        have hst : D = dotsGoR (P.drop (j + 1)) (stepR (P.getD j []) O) (decide (P.getD j [] = d1 ∨ P.getD j [] = d2)) := by rw [HDj.out, hdr, dotsGoR_step]
        generalize P.getD j [] = x at *
        have HST := Lib.hid hst
        clear hst hdr
        have q1 : ((bs x).toList == [46]) = decide (x = d1) := by rw [eq_bs, Bool.eq_iff_iff, beq_iff_eq, decide_eq_true_eq]; rfl
        have q2 : ((bs x).toList == [46, 46]) = decide (x = d2) := by rw [eq_bs, Bool.eq_iff_iff, beq_iff_eq, decide_eq_true_eq]; rfl
        by_cases h2 : x = d2
        · have h1 : ¬ x = d1 := by rw [h2]; decide
          rw [decide_eq_true h2] at q2
          rw [decide_eq_false h1] at q1
          have hs2 : D = dotsGoR (P.drop (j + 1)) O.dropLast true := by rw [HST.out, decide_eq_true (Or.inr h2)]; unfold stepR; rw [if_pos (Or.inr h2), if_pos h2]
          have HS2 := Lib.hid hs2
          clear hs2 h1 h2
          by_cases h0 : O.length = 0
          · have tg : decide ((O.length : Int) > 0) = false := decide_eq_false (by omega)
            have tg2 : decide (0 < O.length) = false := decide_eq_false (by omega)
            have hO0 : O.dropLast = O := by rw [List.eq_nil_of_length_eq_zero h0]; rfl
            have HS3 := Lib.hid (by have := HS2.out; rwa [hO0] at this)
            clear hO0 h0
            go_wp2_with fail
            exact ⟨⟨j + 1, O, true, by go_num, rfl, by omega, by omega, HS3, HO, HB⟩, by simp [intOf]; omega⟩
          · have tg : decide ((O.length : Int) > 0) = true := decide_eq_true (by omega)
            have tg2 : decide (0 < O.length) = true := decide_eq_true (by omega)
            have hdo := HO.out.drop
            obtain ⟨m, hm⟩ : ∃ m, m = O.length - 1 := ⟨_, rfl⟩
            rw [← hm] at hdo
            have hm1 : (O.length : Int) - 1 = (m : Int) := by omega
            have hmc : m ≤ c := by omega
            have hdl2 : O.dropLast.length ≤ j + 1 := by rw [List.length_dropLast]; omega
            have HDO := Lib.hid hdo; have HDL := Lib.hid hdl2
            clear hdo hm hdl2 HO
            go_wp2_with fail
            exact ⟨⟨j + 1, O.dropLast, true, by go_num, rfl, by omega, HDL.out, HS2, HDO, HB⟩, by simp [intOf]; omega⟩
        · rw [decide_eq_false h2] at q2
          by_cases h1 : x = d1
          · rw [decide_eq_true h1] at q1
            have hs2 : D = dotsGoR (P.drop (j + 1)) O true := by rw [HST.out, decide_eq_true (Or.inl h1)]; unfold stepR; rw [if_pos (Or.inl h1), if_neg h2]
            have HS2 := Lib.hid hs2
            clear hs2 h1 h2
            go_wp2_with fail
            exact ⟨⟨j + 1, O, true, by go_num, rfl, by omega, by omega, HS2, HO, HB⟩, by simp [intOf]; omega⟩
          · rw [decide_eq_false h1] at q1
            have hno : ¬ (x = d1 ∨ x = d2) := by rintro (h | h); exact h1 h; exact h2 h
            have hs2 : D = dotsGoR (P.drop (j + 1)) (O ++ [x]) false := by rw [HST.out, decide_eq_false hno]; unfold stepR; rw [if_neg hno]
            have HS2 := Lib.hid hs2
            clear hs2 h1 h2 hno
            go_wp2_with (first | (at_builtin; refine wpList_copyS rfl (.tmp 46) (.tmp 47) rfl w1.heap.size hBs O (by rfl) w1.heap.size _ (by rfl) HO.out (by omega) ?_; intro A3 c3 w3 ho3 hb3; have HO3 := Lib.hid ho3; have hBs3 := (HB.out.trans hb3).size; have HB3 := Lib.hid (HB.out.trans hb3); clear ho3 hb3) | (at_builtin; refine wpList_pushS rfl (.tmp 48) (.tmp 50) rfl w1.heap.size hBs3 O _ (by rfl) HO3.out x (by rfl) (by omega) ?_; intro A2 c2 w2 ho2 hb2; have HO2 := Lib.hid ho2; have HB2 := Lib.hid (HB3.out.trans hb2); clear ho2 hb2))
            exact ⟨⟨j + 1, O ++ [x], false, by go_num, rfl, by omega, by rw [List.length_append]; exact Nat.succ_le_succ hO, HS2, HO2, HB2⟩, by simp [intOf]; omega⟩
      · obtain rfl : j = P.length := by omega
        have tj : decide ((P.length : Int) < (P.length : Int)) = false := by rw [decide_eq_false_iff_not]; omega
        have hD2 : D = (O, b) := by rw [HDj.out, List.drop_of_length_le (Nat.le_refl _)]; rfl
        have hL2 : L = if b = true then O ++ [[]] else O := by rw [HL.out, hD2]
        have HL2 := Lib.hid hL2
        have hLl : L.length ≤ P.length + 1 := by
          rw [hL2]
          split
          · rw [List.length_append]; simp; omega
          · omega
        clear hD2 hL2 hjn
        go_upto_if 53 with fail
        go_cut [3] (fun v wx => SOwn wx w1.heap.size v L ∧ Below w1.heap.size w1 wx)
        case first =>
          cases b with
          | true =>
            have hLO := Lib.hid (HL2.out.trans (if_pos rfl))
            go_wp2_with (first | (at_builtin; refine wpList_copyS rfl (.tmp 54) (.tmp 55) rfl w1.heap.size hBs O (by rfl) w1.heap.size _ (by rfl) HO.out (by omega) ?_; intro A3 c3 w3 ho3 hb3; have HO3 := Lib.hid ho3; have hBs3 := (HB.out.trans hb3).size; have HB3 := Lib.hid (HB.out.trans hb3); clear ho3 hb3) | (at_builtin; refine wpList_pushS rfl (.tmp 56) (.tmp 57) rfl w1.heap.size hBs3 O _ (by rfl) HO3.out [] (by rfl) (by omega) ?_; intro A2 c2 w2 ho2 hb2; have HO2 := Lib.hid ho2; have HB2 := Lib.hid (HB3.out.trans hb2); clear ho2 hb2))
            go_meet
            exact ⟨by rw [hLO.out]; exact HO2.out, HB2.out⟩
          | false =>
            have hLO := Lib.hid (HL2.out.trans (if_neg (by decide)))
            go_wp2_with fail
            go_meet
            exact ⟨by rw [hLO.out]; exact HO.out, HB.out⟩
        case rest =>
          obtain ⟨hoL, hbL⟩ := hcut
          obtain ⟨AL, cL, hvL, hcL, hcmL, hANL⟩ := hoL.form
          subst hvL
          have HOL := Lib.hid hoL; have HBL := Lib.hid hbL
          clear hoL hbL HO HB HDj HL HL2
          obtain ⟨F, hF⟩ : ∃ F, F = L.flatMap (fun p => 47 :: p) := ⟨_, rfl⟩
          have hRF : R = if F = [] then [47] else F := by rw [HR.out, hF]
          have hFl : F.length ≤ r.length + 1 := by
            by_cases h : F = []
            · rw [h]; simp
            · rw [if_neg h] at hRF; rw [← hRF]; exact hdl
          have HF := Lib.hid hF; have HRF := Lib.hid hRF
          clear hF hRF
          have hcellL : ∀ W, Below w1.heap.size w1 W → True := fun _ _ => trivial
          clear hcellL
          go_upto_region 18 with fail
          go_loop [7, 61] (fun acc i => ∃ (j : Nat) (T : Bs), i = .int .i64 (j : Int) ∧ acc = .string (bs T) ∧ j ≤ L.length ∧ T.length ≤ 3000001 ∧ Hid (F = T ++ (L.drop j).flatMap (fun p => 47 :: p))) (fun _ i => L.length - (intOf i).toNat)
          case atStart => exact ⟨0, [], rfl, rfl, Nat.zero_le _, Nat.zero_le _, Lib.hid HF.out⟩
          case round =>
            obtain ⟨j, T, rfl, rfl, hj, hTl, HT⟩ := hrel
            by_cases hjn : j < L.length
            · have tj : decide ((j : Int) < (L.length : Int)) = true := by rw [decide_eq_true_eq]; omega
              obtain ⟨gL, rfl, _, hgL⟩ := own_some HOL.out (by omega)
              have hcell : wc.cell? ⟨gL, j, none⟩ = some (.string (bs (L.getD j []))) := by
                rw [HOL.out.cellAt j (by omega), strs_at L j hjn]
              have hdr : L.drop j = L.getD j [] :: L.drop (j + 1) := by rw [List.drop_eq_getElem_cons hjn]; simp [hjn]
              have hF2 : F = (T ++ 47 :: L.getD j []) ++ (L.drop (j + 1)).flatMap (fun p => 47 :: p) := by
                rw [HT.out, hdr, List.flatMap_cons]; simp
              have hTl2 : (T ++ 47 :: L.getD j []).length ≤ 3000001 := by
                have := congrArg List.length hF2
                rw [List.length_append] at this
                omega
              generalize L.getD j [] = x at *
              have e1 : bs (T ++ 47 :: x) = bs T ++ (bs [47] ++ bs x) := by rw [bs_cat, bs_cat]; rfl
              have HF2 := Lib.hid hF2; have HE1 := Lib.hid e1; have HTL2 := Lib.hid hTl2
              have z1 : (bs T).size ≤ 3000001 := by rw [bs_size]; exact hTl
              have z2 : (bs x).size ≤ 3000001 := by rw [bs_size]; rw [List.length_append, List.length_cons] at hTl2; omega
              clear hdr hF2 e1 hTl2
              go_wp2_with fail
              exact ⟨⟨j + 1, T ++ 47 :: x, by go_num, by rw [HE1.out]; rfl, by omega, HTL2.out, HF2⟩, by simp [intOf]; omega⟩
            · obtain rfl : j = L.length := by omega
              have tj : decide ((L.length : Int) < (L.length : Int)) = false := by rw [decide_eq_false_iff_not]; omega
              have hFT : F = T := by rw [HT.out, List.drop_of_length_le (Nat.le_refl _)]; simp
              subst hFT
              obtain ⟨ub, hub⟩ : ∃ ub, ub = F.isEmpty := ⟨_, rfl⟩
              have t1 : ((bs F).toList == []) = ub := by rw [hub]; exact (by rw [bs_toList]; cases F <;> rfl)
              have t2 : (bs F).toList.isEmpty = ub := by rw [hub, bs_toList]
              have HUB := Lib.hid hub
              have hW := HB1.out.trans (HBL.out.mono HB1.out.size)
              have HW := Lib.hid hW
              clear hub hjn hW
              cases ub with
              | true =>
                have hr : R = [47] := by rw [HRF.out, if_pos (List.isEmpty_iff.1 HUB.out.symm)]
                have Hr := Lib.hid hr
                clear hr
                go_wp2_with fail
                go_ret
                exact ⟨by rw [Hr.out]; rfl, HW.out⟩
              | false =>
                have hr : R = F := by rw [HRF.out, if_neg (fun e => by have := HUB.out; rw [e] at this; cases this)]
                have Hr := Lib.hid hr
                clear hr
                go_wp2_with fail
                go_ret
                exact ⟨by rw [Hr.out]; rfl, HW.out⟩
  · have e1 : dotsP p = p ∧ (p = [] ∨ ∃ c r, p = c :: r ∧ c ≠ 47) := by
      match p with
      | [] => exact ⟨rfl, .inl rfl⟩
      | x :: r =>
        have hx : x ≠ 47 := fun e => h47 ⟨r, by rw [e]⟩
        exact ⟨by rw [dotsP_cons, if_neg hx], .inr ⟨x, r, rfl, hx⟩⟩
    obtain ⟨e1, e2⟩ := e1
    rw [e1]
    clear e1 h47 hl
    rcases e2 with rfl | ⟨c, r, rfl, hc⟩
    · have q1 : ((bs []).toList == []) = true := by rw [bs_toList]; rfl
      have q2 : (bs []).toList = [] := bs_toList []
      generalize bs [] = S at *
      go_enter Tryz.func20, Tryz.ntmps20
      go_wp2_with fail
      go_ret
      exact ⟨rfl, Below.refl _ _⟩
    · have q1 : ((bs (c :: r)).toList == []) = false := by rw [bs_toList]; rfl
      have q2 : (bs (c :: r)).toList = [] ↔ False := by rw [bs_toList]; simp
      have q3 : (bs (c :: r)).toList.isEmpty = false := by rw [bs_toList]; rfl
      have hx := str_byte (c :: r) 0 (by simp)
      have hx : ∀ W, (Instr.index 9 (.string (bs (c :: r))) (.int .i64 0)).run Tryz.prog W = .ok (.int .u8 ((c.toNat : Nat) : Int)) W := hx
      have t1 : (((c.toNat : Nat) : Int) == 47) = false := (u8_beq c 47 47 rfl).trans (by simpa using hc)
      generalize bs (c :: r) = S at *
      generalize ((c.toNat : Nat) : Int) = y at *
      have t2 : (y != 47) = true := by rw [bne, t1]; rfl
      clear hc
      go_enter Tryz.func20, Tryz.ntmps20
      go_wp2_with fail
      go_ret
      exact ⟨rfl, Below.refl _ _⟩
end Go.Proofs.YtcpkkaimingnlaaGreatDoor
