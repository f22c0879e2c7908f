/-
  link.Parse.
-/
import Derived.Test.YtcpkkaimingnlaaGreatDoorLrw
import Derived.Test.YtcpkkaimingnlaaGreatDoorLia
import Derived.Deep.DeepCutAuto
namespace Go.Proofs.YtcpkkaimingnlaaGreatDoor
open Go.RowKit

theorem cut_any (s sep : Bs) (hl : s.length ≤ 4000000) (w : World) (hT : Tabs w) :
    Calls Tryz.prog 38 #[.string (bs s), .string (bs sep)] w fun e w' => e = .returned (.tuple #[.string (bs (Lib.cut s sep).1), .string (bs (Lib.cut s sep).2.1), .bool (Lib.cut s sep).2.2]) ∧ Below w.heap.size w w' := by
  obtain ⟨m, hm⟩ := hT.len
  refine (Tryz.strings_Cut (bs s) (bs sep) m w (by rw [bs_size]; omega) hm).mono ?_
  rintro e w' ⟨rfl, n, rfl⟩
  have e1 : (bs s).data.toList = s := by simp [bs]
  have e2 : (bs sep).data.toList = sep := by simp [bs]
  rw [e1, e2]
  exact ⟨rfl, below_drewN (Below.refl _ _) n⟩
theorem lower_text (s : Bs) (hl : s.length ≤ 4000000) (w : World) (hT : Tabs w) :
    Calls Tryz.prog 39 #[.string (bs s)] w fun e w' => e = .returned (.string (bs (Lib.toLowerD s))) ∧ Below w.heap.size w w' := by
  refine (Tryz.strings_ToLower_any (bs s) w (by rw [bs_size]; omega) hT.case hT.utf).mono ?_
  rintro e w' ⟨rfl, h⟩
  have e1 : (bs s).data.toList = s := by simp [bs]
  rw [e1]
  exact ⟨rfl, h⟩
theorem contains_any (s : Bs) (c : UInt8) (w : World) :
    Calls Tryz.prog 46 #[.string (bs s), .string (bs [c])] w fun e w' => e = .returned (.bool (decide (0 ≤ Lib.index s [c]))) ∧ w' = w := by
  refine (Tryz.strings_Contains_one (bs s) c w).mono ?_
  rintro e w' ⟨rfl, rfl⟩
  have e1 : (bs s).data.toList = s := by simp [bs]
  rw [e1, Lib.index_one]
  exact ⟨rfl, rfl⟩
/-- The two blocks of Parse: the answer's, the link's. -/
structure PW (w W : World) (c2 c : List Value) : Prop where
  b2 : Blk W w.heap.size 24 c2
  b : Blk W (w.heap.size + 1) 24 c
  bel : Below w.heap.size w W
theorem PW.call {w W W1 : World} {c2 c : List Value} (h : PW w W c2 c) (hb : Below W.heap.size W W1) : PW w W1 c2 c :=
  ⟨blk_below h.b2 hb (blk_lt h.b2), blk_below h.b hb (blk_lt h.b), h.bel.trans (hb.mono h.bel.size)⟩
theorem PW.set {w W W1 : World} {c2 c c' : List Value} (h : PW w W c2 c) (hb : Blk W1 (w.heap.size + 1) 24 c') (ht : Turned W W1 (w.heap.size + 1)) : PW w W1 c2 c' :=
  ⟨ht.blk h.b2 (by omega), hb, ht.below _ _ (by omega) h.bel⟩
theorem PW.quiet {w W : World} {c2 c : List Value} (h : PW w W c2 c) (n : Nat) : PW w (W.drewN n) c2 c :=
  ⟨blk_drewN h.b2 n, blk_drewN h.b n, below_drewN h.bel n⟩
theorem pw_start (w : World) (A B : List Value) : PW w ((w.alloc (.cells A.toArray 24)).alloc (.cells B.toArray 24)) A B := by
  have h2 : Blk (w.alloc (.cells A.toArray 24)) w.heap.size 24 A := by have := blk_new w 24 A.toArray; simpa using this
  refine ⟨blk_alloc h2 _, ?_, ((Below.refl _ w).alloc (Nat.le_refl _) _).alloc (by simp) _⟩
  have := blk_new (w.alloc (.cells A.toArray 24)) 24 B.toArray
  simpa using this
def zcs : List Value := [.string ⟨#[]⟩, .string ⟨#[]⟩, .int .i64 0, .string ⟨#[]⟩, .string ⟨#[]⟩, .string ⟨#[]⟩, .bool false, .bool false]
theorem cut_len (s sep : Bs) : (Lib.cut s sep).1.length ≤ s.length ∧ (Lib.cut s sep).2.1.length ≤ s.length := by
  unfold Lib.cut
  split
  · exact ⟨by dsimp only; rw [List.length_take]; omega, by dsimp only; rw [List.length_drop]; omega⟩
  · exact ⟨Nat.le_refl _, Nat.zero_le _⟩
set_option maxHeartbeats 8000000 in
set_option maxRecDepth 100000 in
theorem parse_any (s : Bs) (w : World) (hT : Tabs w) (hmax : s.length ≤ 9223372036854775807) :
    Calls Tryz.prog 14 #[.string (bs s)] w fun e w' => e = .returned (.tuple #[lnk ((parseP s).getD Link.zero), .int .i64 (if (parseP s).isSome = true then 0 else 40)]) ∧ Below w.heap.size w w' := by
  have hz : (bs s).size = s.length := bs_size s
  obtain ⟨R, hR⟩ : ∃ R, R = parseP s := ⟨_, rfl⟩
  rw [← hR]
  obtain ⟨E, hE⟩ : ∃ E : Int, E = (if R.isSome = true then 0 else 40) := ⟨_, rfl⟩
  rw [← hE]
  have HR := Lib.hid hR; have HE := Lib.hid hE
  clear hR hE
  have HP0 := Lib.hid (pw_start w zcs zcs)
  have HT := Lib.hid hT
  clear hT
  by_cases hlen : s.length ≤ 2048
  · have hcut := Lib.hid (fun W (h : Below w.heap.size w W) => cut_any s [58, 47, 47] (by omega) W (HT.out.below h))
    have hnl : decide ((s.length : Int) ≤ 2048) = true := decide_eq_true (by omega)
    have hcl := cut_len s [58, 47, 47]
    have hR : R = if (Lib.cut s [58, 47, 47]).2.2 = false ∨ isHttp (Lib.toLowerD (Lib.cut s [58, 47, 47]).1) = false then none else restP (Lib.cut s [58, 47, 47]).1 (Lib.cut s [58, 47, 47]).2.1 := by
      rw [HR.out]; unfold parseP; rw [if_neg (by omega)]
    generalize Lib.cut s [58, 47, 47] = C at *
    obtain ⟨sch, rest, is⟩ := C
    dsimp only at hcl hR hcut
    have hlow := Lib.hid (fun W (h : Below w.heap.size w W) => lower_text sch (by omega) W (HT.out.below h))
    have hix := Lib.hid (fun W => ixany_any rest [47, 63, 35] (by decide) (by decide) (by decide) (by omega) W)
    obtain ⟨L, hL⟩ : ∃ L, L = Lib.toLowerD sch := ⟨_, rfl⟩
    rw [← hL] at hR hlow
    have HL := Lib.hid hL; have HR2 := Lib.hid hR
    clear hR hL
    go_enter Tryz.func14, Tryz.ntmps14
    go_upto_region 2 with fail
    obtain ⟨W0, hW0⟩ : ∃ W0, W0 = (w.alloc (.cells zcs.toArray 24)).alloc (.cells zcs.toArray 24) := ⟨_, rfl⟩
    rw [← hW0] at HP0
    rw [show (w.alloc (.cells #[.string ⟨#[]⟩, .string ⟨#[]⟩, .int .i64 0, .string ⟨#[]⟩, .string ⟨#[]⟩, .string ⟨#[]⟩, .bool false, .bool false] 24)).alloc (.cells #[.string ⟨#[]⟩, .string ⟨#[]⟩, .int .i64 0, .string ⟨#[]⟩, .string ⟨#[]⟩, .string ⟨#[]⟩, .bool false, .bool false] 24) = W0 from hW0.symm]
    clear hW0
    go_upto_region 5 with (first | (go_at_call 38; refine (hcut.out _ HP0.out.bel).mono ?_; rintro e w1 ⟨rfl, hb1⟩; have HP1 := Lib.hid (HP0.out.call hb1); clear hb1) | (refine wpList_storeC rfl 9 (.tmp 23) (.tmp 20) rfl (w.heap.size + 1) 0 _ rfl rfl rfl info9 24 _ HP1.out.b (by exact Nat.le_of_ble_eq_true rfl) ?_; intro W1 hb1 ht1; have HP2 := Lib.hid (HP1.out.set hb1 ht1); clear hb1 ht1))
    have HPr := Lib.hid HP2.out.b
    have c0 : W1.cell? ⟨w.heap.size + 1, 0, none⟩ = some (.string (bs sch)) := by rw [blk_cell HP2.out.b 0]; rfl
    go_upto_region 6 with (go_at_call 39; refine (hlow.out _ HP2.out.bel).mono ?_; rintro e w2 ⟨rfl, hb1⟩; have HP3 := Lib.hid (HP2.out.call hb1); clear hb1)
    clear c0 HP0 HP1 HP2 HPr
    obtain ⟨B, hB⟩ : ∃ B, B = (!is || (!(L == bHttp) && !(L == bHttps))) := ⟨_, rfl⟩
    have q1 : ((bs L).toList == [104, 116, 116, 112]) = (L == bHttp) := eq_bs L _
    have q2 : ((bs L).toList == [104, 116, 116, 112, 115]) = (L == bHttps) := eq_bs L _
    have HB := Lib.hid hB
    clear hB
    go_cut [36] (fun v wx => v = .bool B ∧ wx = w2)
    case first =>
      have q3 : ((bs L).toList != [104, 116, 116, 112]) = !(L == bHttp) := by rw [bne, q1]
      have q4 : ((bs L).toList != [104, 116, 116, 112, 115]) = !(L == bHttps) := by rw [bne, q2]
      cases is <;> cases hx1 : (L == bHttp) <;> cases hx2 : (L == bHttps)
      all_goals rw [hx1, hx2] at HB
      all_goals rw [hx1] at q1 q3
      all_goals rw [hx2] at q2 q4
      all_goals clear hx1 hx2
      all_goals go_wp2_with fail
      all_goals go_meet
      all_goals exact ⟨by rw [HB.out]; rfl, rfl⟩
    case rest =>
      obtain ⟨rfl, rfl⟩ := hcut
      clear q1 q2
      cases B with
      | true =>
        have hr : R = none := by
          rw [HR2.out, if_pos]
          have := HB.out
          revert this
          unfold isHttp
          cases is <;> cases (L == bHttp) <;> cases (L == bHttps) <;> simp
        have Hr := Lib.hid hr
        clear hr
        have HP := HP3
        go_upto_region 7 with fail
        go_wp2_with (refine wpList_storeL rfl (.tmp 2) (.tmp 37) rfl w.heap.size _ rfl rfl _ HP.out.b2 rfl rfl rfl ?_; intro W9 hb9 ht9)
        refine bodyPost_ret (v := _) (results_link Tryz.results14 _ _ w.heap.size _ rfl hb9 rfl) rfl ?_
        exact ⟨by rw [HE.out, Hr.out]; rfl, ht9.below _ _ (Nat.le_refl _) HP.out.bel⟩
      | false =>
        have hr : R = restP sch rest := by
          rw [HR2.out, if_neg]
          have := HB.out
          revert this
          unfold isHttp
          cases is <;> cases (L == bHttp) <;> cases (L == bHttps) <;> simp
        have Hr := Lib.hid hr
        clear hr
        go_upto_if 41 with (go_at_call 40; refine (hix.out _).mono ?_; rintro e w3 ⟨rfl, hb1⟩; have HP4 := Lib.hid (HP3.out.call hb1); clear hb1)
        clear HP3 hix hcut
        have hsa := stop_any [47, 63, 35] rest
        obtain ⟨st, hst⟩ : ∃ st, st = stop [47, 63, 35] rest := ⟨_, rfl⟩
        rw [← hst] at hsa
        have hstl : st ≤ rest.length := by rw [hst]; unfold stop; exact (List.takeWhile_sublist _).length_le
        have hR3 : R = restP sch rest := Hr.out
        unfold restP at hR3
        rw [← hst] at hR3
        dsimp only at hR3
        generalize Lib.indexAny rest [47, 63, 35] = I at *
        have hzr : (bs rest).size = rest.length := bs_size rest
        have hto := Lib.hid (fun W => str_to rest st hstl W)
        have hfr := Lib.hid (fun W => str_from rest st hstl W)
        have hcl2 := cut_len (rest.take st) [58]
        have hlt : (rest.take st).length ≤ 2048 := by rw [List.length_take]; omega
        have hld : (rest.drop st).length ≤ 2048 := by rw [List.length_drop]; omega
        have hcut2 := Lib.hid (fun W (h : Below w.heap.size w W) => cut_any (rest.take st) [58] (by omega) W (HT.out.below h))
        generalize rest.take st = host at *
        generalize rest.drop st = tail at *
        generalize Lib.cut host [58] = C2 at *
        obtain ⟨name, number, has⟩ := C2
        dsimp only at hcl2 hR3 hcut2
        have HR3 := Lib.hid hR3; have HSA := Lib.hid hsa
        clear hR3 hsa hst
        go_cut [8] (fun v wx => v = .int .i64 (st : Int) ∧ wx = w3)
        case first =>
          by_cases hI : I < 0
          · have t1 : decide (I < 0) = true := decide_eq_true hI
            have e1 : (rest.length : Int) = (st : Int) := by have := HSA.out; rwa [if_pos hI] at this
            have HE1 := Lib.hid e1
            clear e1 hI
            rw [t1]
            clear t1
            go_wp2_with fail
            go_meet
            exact ⟨by rw [HE1.out], rfl⟩
          · have t1 : decide (I < 0) = false := decide_eq_false hI
            have e1 : I = (st : Int) := by have := HSA.out; rwa [if_neg hI] at this
            have HE1 := Lib.hid e1
            clear e1 hI
            rw [t1]
            clear t1
            go_wp2_with fail
            go_meet
            exact ⟨by rw [HE1.out], rfl⟩
        case rest =>
          obtain ⟨rfl, rfl⟩ := hcut
          clear HSA
          go_upto_region 11 with fail
          go_cut [9, 10] (fun v v' wx => v = .string (bs host) ∧ v' = .string (bs tail) ∧ PW w wx zcs (zcs.set 0 (.string (bs sch))))
          case first =>
            have h1 := hto.out
            have h2 := hfr.out
            go_quiet (fail)
            go_wp2_with fail
            go_meet
            exact ⟨rfl, rfl, HP4.out.quiet _⟩
          case rest =>
            obtain ⟨rfl, rfl, hp5⟩ := hcut
            have HP5 := Lib.hid hp5
            clear hp5 HP4 hto hfr
            have hport := Lib.hid (fun W (h : Below w.heap.size w W) => port_any number W (HT.out.below h) (by omega))
            obtain ⟨pt, hpt⟩ : ∃ pt : Nat, pt = if has = true then portP number else 0 := ⟨_, rfl⟩
            have Hpt := Lib.hid hpt
            clear hpt
            go_upto_if 58 with (first | (go_at_call 38; refine (hcut2.out _ HP5.out.bel).mono ?_; rintro e w5 ⟨rfl, hb1⟩; have HP6 := Lib.hid (HP5.out.call hb1); clear hb1) | (refine wpList_storeC rfl 9 (.tmp 57) (.tmp 56) rfl (w.heap.size + 1) 1 _ rfl rfl rfl info9 24 _ HP6.out.b (by exact Nat.le_of_ble_eq_true rfl) ?_; intro X1 hb1 ht1; have HP7 := Lib.hid (HP6.out.set hb1 ht1); clear hb1 ht1))
            clear HP5 HP6 hcut2
            go_cut [] (fun wx => PW w wx zcs ((((zcs.set 0 (.string (bs sch))).set 1 (.string (bs name)))).set 2 (.int .i64 (pt : Int))))
            case first =>
              cases has with
              | true =>
                have hpv : portP number = pt := by rw [Hpt.out]; rfl
                rw [hpv] at hport
                clear hpv
                go_wp2_with (first | (go_at_call 41; refine (hport.out _ HP7.out.bel).mono ?_; rintro e w6 ⟨rfl, hb1⟩; have HP8 := Lib.hid (HP7.out.call hb1); clear hb1) | (refine wpList_storeC rfl 3 (.tmp 61) (.tmp 60) rfl (w.heap.size + 1) 2 _ rfl rfl rfl info3 24 _ HP8.out.b (by exact Nat.le_of_ble_eq_true rfl) ?_; intro X2 hb1 ht1; have HP9 := Lib.hid (HP8.out.set hb1 ht1); clear hb1 ht1))
                go_meet
                exact HP9.out
              | false =>
                have hpv : pt = 0 := by rw [Hpt.out]; rfl
                subst hpv
                go_wp2_with fail
                go_meet
                exact HP7.out
            case rest =>
              have HP8 := Lib.hid hcut
              have c2 : wc.cell? ⟨w.heap.size + 1, 2, none⟩ = some (.int .i64 (pt : Int)) := by rw [blk_cell hcut.b 2]; rfl
              clear hcut HP7 hport
              have hall := Lib.hid (fun W => all43_any name W (by omega))
              have hright := Lib.hid (fun W => right_any tail W (by omega))
              have hzn : (bs name).size = name.length := bs_size name
              obtain ⟨A, hA⟩ : ∃ A, A = name.all hostB := ⟨_, rfl⟩
              obtain ⟨G, hG⟩ : ∃ G, G = rightL tail := ⟨_, rfl⟩
              rw [← hA] at hall
              rw [← hG] at hright
              obtain ⟨B, hB⟩ : ∃ B, B = (decide (name.length < 1) || decide (253 < name.length) || !A || (has && decide (pt = 0)) || !G) := ⟨_, rfl⟩
              have HB2 := Lib.hid hB; have HA := Lib.hid hA; have HG := Lib.hid hG
              clear hB hA hG
              go_upto_region 16 with fail
              go_cut [87] (fun v wx => v = .bool B ∧ PW w wx zcs ((((zcs.set 0 (.string (bs sch))).set 1 (.string (bs name)))).set 2 (.int .i64 (pt : Int))))
              case first =>
                by_cases h1 : name.length < 1
                · have t1 : decide ((name.length : Int) < 1) = true := decide_eq_true (by omega)
                  have eB : B = true := by rw [HB2.out, decide_eq_true h1]; simp
                  clear h1
                  go_wp2_with fail
                  go_meet
                  exact ⟨by rw [eB], HP8.out⟩
                have t1 : decide ((name.length : Int) < 1) = false := decide_eq_false (by omega)
                have d1 : decide (name.length < 1) = false := decide_eq_false h1
                rw [d1] at HB2
                clear h1 d1
                by_cases h2 : 253 < name.length
                · have t2 : decide ((name.length : Int) > 253) = true := decide_eq_true (by omega)
                  have eB : B = true := by rw [HB2.out, decide_eq_true h2]; simp
                  clear h2
                  go_wp2_with fail
                  go_meet
                  exact ⟨by rw [eB], HP8.out⟩
                have t2 : decide ((name.length : Int) > 253) = false := decide_eq_false (by omega)
                have d1 : decide (253 < name.length) = false := decide_eq_false h2
                rw [d1] at HB2
                clear h2 d1
                cases A with
                | false =>
                  have eB : B = true := by rw [HB2.out]; simp
                  go_wp2_with (go_at_call 42; refine (hall.out _).mono ?_; rintro e w' ⟨rfl, rfl⟩)
                  go_meet
                  exact ⟨by rw [eB], HP8.out⟩
                | true =>
                  cases has with
                  | true =>
                    by_cases h3 : pt = 0
                    · subst h3
                      have eB : B = true := by rw [HB2.out]; simp
                      go_wp2_with (go_at_call 42; refine (hall.out _).mono ?_; rintro e w' ⟨rfl, rfl⟩)
                      go_meet
                      exact ⟨by rw [eB], HP8.out⟩
                    · have t3 : ((pt : Int) == 0) = false := by rw [beq_eq_false_iff_ne]; omega
                      rw [decide_eq_false h3] at HB2
                      clear h3
                      cases G
                      all_goals
                        go_wp2_with (first | (go_at_call 42; refine (hall.out _).mono ?_; rintro e w' ⟨rfl, rfl⟩) | (go_at_call 45; refine (hright.out _).mono ?_; rintro e w7 ⟨rfl, hb1⟩; have HP9 := Lib.hid (HP8.out.call hb1); clear hb1))
                        go_meet
                        exact ⟨by rw [HB2.out]; rfl, HP9.out⟩
                  | false =>
                    cases G
                    all_goals
                      go_wp2_with (first | (go_at_call 42; refine (hall.out _).mono ?_; rintro e w' ⟨rfl, rfl⟩) | (go_at_call 45; refine (hright.out _).mono ?_; rintro e w7 ⟨rfl, hb1⟩; have HP9 := Lib.hid (HP8.out.call hb1); clear hb1))
                      go_meet
                      exact ⟨by rw [HB2.out]; rfl, HP9.out⟩
              case rest =>
                obtain ⟨rfl, hp9⟩ := hcut
                have HP := Lib.hid hp9
                clear hp9 HP8 hall hright c2
                have hR4 : R = if B = true then none else if 0 ≤ Lib.index (tailP tail).2.2.1 [35] then none else some ⟨sch, name, pt, (tailP tail).1, (tailP tail).2.1, (tailP tail).2.2.1, (tailP tail).2.2.2.1, (tailP tail).2.2.2.2⟩ := by
                  rw [HR3.out, HB2.out, HA.out, HG.out, Hpt.out]
                  simp only [Bool.or_eq_true, Bool.and_eq_true, decide_eq_true_eq, Bool.not_eq_true', or_assoc]
                  cases has <;> simp
                cases B with
                | true =>
                  have Hr := Lib.hid (hR4.trans (if_pos rfl))
                  clear hR4
                  go_upto_region 17 with fail
                  go_wp2_with (refine wpList_storeL rfl (.tmp 2) (.tmp 88) rfl w.heap.size _ rfl rfl _ HP.out.b2 rfl rfl rfl ?_; intro W9 hb9 ht9)
                  refine bodyPost_ret (v := _) (results_link Tryz.results14 _ _ w.heap.size _ rfl hb9 rfl) rfl ?_
                  exact ⟨by rw [HE.out, Hr.out]; rfl, ht9.below _ _ (Nat.le_refl _) HP.out.bel⟩
                | false =>
                  rw [if_neg (by decide)] at hR4
                  unfold tailP at hR4
                  dsimp only at hR4
                  have hcl3 := cut_len tail [35]
                  have hcut3 := Lib.hid (fun W (h : Below w.heap.size w W) => cut_any tail [35] (by omega) W (HT.out.below h))
                  generalize Lib.cut tail [35] = C3 at *
                  obtain ⟨t2, fr, hasF⟩ := C3
                  dsimp only at hcl3 hcut3 hR4
                  have hcut4 := Lib.hid (fun W (h : Below w.heap.size w W) => cut_any t2 [63] (by omega) W (HT.out.below h))
                  generalize Lib.cut t2 [63] = C4 at *
                  obtain ⟨pth, qr, hasQ⟩ := C4
                  dsimp only at hcut4 hR4
                  have hcont := Lib.hid (fun W => contains_any fr 35 W)
                  obtain ⟨D, hD⟩ : ∃ D, D = decide (0 ≤ Lib.index fr [35]) := ⟨_, rfl⟩
                  rw [← hD] at hcont
                  have hR5 : R = if D = true then none else some ⟨sch, name, pt, pth, qr, fr, hasQ, hasF⟩ := by
                    rw [hR4, hD]; simp
                  have HR5 := Lib.hid hR5
                  clear hR4 hR5 hD HB2 HA HG HR3 hcl3 hcl2 hcl Hpt
                  go_upto_region 19 with (first | (go_at_call 38; refine (hcut3.out _ HP.out.bel).mono ?_; rintro e w8 ⟨rfl, hb1⟩; have HP1 := Lib.hid (HP.out.call hb1); clear hb1) | (refine wpList_storeC rfl 9 (.tmp 95) (.tmp 93) rfl (w.heap.size + 1) 5 _ rfl rfl rfl info9 24 _ HP1.out.b (by exact Nat.le_of_ble_eq_true rfl) ?_; intro X3 hb1 ht1; have HP2 := Lib.hid (HP1.out.set hb1 ht1); clear hb1 ht1) | (refine wpList_storeC rfl 4 (.tmp 96) (.tmp 94) rfl (w.heap.size + 1) 7 _ rfl rfl rfl info4 24 _ HP2.out.b (by exact Nat.le_of_ble_eq_true rfl) ?_; intro X4 hb1 ht1; have HP3 := Lib.hid (HP2.out.set hb1 ht1); clear hb1 ht1))
                  clear HP HP1 HP2 hcut3
                  go_upto_region 20 with (first | (go_at_call 38; refine (hcut4.out _ HP3.out.bel).mono ?_; rintro e w9 ⟨rfl, hb1⟩; have HP4 := Lib.hid (HP3.out.call hb1); clear hb1) | (refine wpList_storeC rfl 9 (.tmp 103) (.tmp 100) rfl (w.heap.size + 1) 3 _ rfl rfl rfl info9 24 _ HP4.out.b (by exact Nat.le_of_ble_eq_true rfl) ?_; intro X5 hb1 ht1; have HP5 := Lib.hid (HP4.out.set hb1 ht1); clear hb1 ht1) | (refine wpList_storeC rfl 9 (.tmp 104) (.tmp 101) rfl (w.heap.size + 1) 4 _ rfl rfl rfl info9 24 _ HP5.out.b (by exact Nat.le_of_ble_eq_true rfl) ?_; intro X6 hb1 ht1; have HP6 := Lib.hid (HP5.out.set hb1 ht1); clear hb1 ht1) | (refine wpList_storeC rfl 4 (.tmp 105) (.tmp 102) rfl (w.heap.size + 1) 6 _ rfl rfl rfl info4 24 _ HP6.out.b (by exact Nat.le_of_ble_eq_true rfl) ?_; intro X7 hb1 ht1; have HP := Lib.hid (HP6.out.set hb1 ht1); clear hb1 ht1))
                  clear HP3 HP4 HP5 HP6 hcut4
                  have c5 : X7.cell? ⟨w.heap.size + 1, 5, none⟩ = some (.string (bs fr)) := by rw [blk_cell HP.out.b 5]; rfl
                  cases D with
                  | true =>
                    have Hr := Lib.hid (HR5.out.trans (if_pos rfl))
                    go_upto_region 21 with (go_at_call 46; refine (hcont.out _).mono ?_; rintro e w' ⟨rfl, rfl⟩)
                    go_wp2_with (refine wpList_storeL rfl (.tmp 2) (.tmp 109) rfl w.heap.size _ rfl rfl _ HP.out.b2 rfl rfl rfl ?_; intro W9 hb9 ht9)
                    refine bodyPost_ret (v := _) (results_link Tryz.results14 _ _ w.heap.size _ rfl hb9 rfl) rfl ?_
                    exact ⟨by rw [HE.out, Hr.out]; rfl, ht9.below _ _ (Nat.le_refl _) HP.out.bel⟩
                  | false =>
                    have Hr := Lib.hid (HR5.out.trans (if_neg (by decide)))
                    go_upto_region 22 with (go_at_call 46; refine (hcont.out _).mono ?_; rintro e w' ⟨rfl, rfl⟩)
                    go_wp2_with (first | (refine wpList_loadL rfl (.tmp 4) rfl (w.heap.size + 1) rfl _ HP.out.b rfl ?_) | (refine wpList_storeL rfl (.tmp 2) (.tmp 110) rfl w.heap.size _ rfl rfl _ HP.out.b2 rfl rfl rfl ?_; intro W9 hb9 ht9))
                    refine bodyPost_ret (v := _) (results_link Tryz.results14 _ _ w.heap.size _ rfl hb9 rfl) rfl ?_
                    exact ⟨by rw [HE.out, Hr.out]; rfl, ht9.below _ _ (Nat.le_refl _) HP.out.bel⟩
  · have hr : R = none := by rw [HR.out]; unfold parseP; rw [if_pos (by omega)]
    have hnl : decide ((s.length : Int) ≤ 2048) = false := decide_eq_false (by omega)
    have Hr := Lib.hid hr
    clear hr
    have hlow := Lib.hid (fun W (h : Below w.heap.size w W) => lower_text [] (by simp) W (HT.out.below h))
    go_enter Tryz.func14, Tryz.ntmps14
    go_upto_region 2 with fail
    obtain ⟨W0, hW0⟩ : ∃ W0, W0 = (w.alloc (.cells zcs.toArray 24)).alloc (.cells zcs.toArray 24) := ⟨_, rfl⟩
    rw [← hW0] at HP0
    rw [show (w.alloc (.cells #[.string ⟨#[]⟩, .string ⟨#[]⟩, .int .i64 0, .string ⟨#[]⟩, .string ⟨#[]⟩, .string ⟨#[]⟩, .bool false, .bool false] 24)).alloc (.cells #[.string ⟨#[]⟩, .string ⟨#[]⟩, .int .i64 0, .string ⟨#[]⟩, .string ⟨#[]⟩, .string ⟨#[]⟩, .bool false, .bool false] 24) = W0 from hW0.symm]
    clear hW0
    have cz : W0.cell? ⟨w.heap.size + 1, 0, none⟩ = some (.string ⟨#[]⟩) := by rw [blk_cell HP0.out.b 0]; rfl
    go_upto_region 7 with (go_at_call 39; refine (hlow.out _ HP0.out.bel).mono ?_; rintro e w1 ⟨rfl, hb1⟩; have HP := Lib.hid (HP0.out.call hb1); clear hb1)
    go_wp2_with (refine wpList_storeL rfl (.tmp 2) (.tmp 37) rfl w.heap.size _ rfl rfl _ HP.out.b2 rfl rfl rfl ?_; intro W9 hb9 ht9)
    refine bodyPost_ret (v := _) (results_link Tryz.results14 _ _ w.heap.size _ rfl hb9 rfl) rfl ?_
    exact ⟨by rw [HE.out, Hr.out]; rfl, ht9.below _ _ (Nat.le_refl _) HP.out.bel⟩
end Go.Proofs.YtcpkkaimingnlaaGreatDoor
