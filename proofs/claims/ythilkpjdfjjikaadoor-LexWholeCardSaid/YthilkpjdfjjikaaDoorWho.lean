/-
  law17.LexWhole, walked.
-/
import Derived.Test.YthilkpjdfjjikaaDoorFst
import Derived.Test.YthilkpjdfjjikaaDoorLay
import Derived.BigQuiet
import Derived.RegionTactic
import Derived.BigRegion
namespace Go.Proofs.YthilkpjdfjjikaaDoor
open Go.RowKit

theorem str_mid (l : Bs) (m t : Nat) (h : m + t ≤ l.length) (w : World) : (Instr.slice 9 (.string (bs l)) (some (.int .i64 (m : Int))) (some (.int .i64 ((m : Int) + (t : Int)))) none).run Tryd.prog w = .ok (.string (bs ((l.drop m).take t))) w := by
  have hs : (bs l).size = l.length := bs_size l
  rw [run_slice_string_if w 9 _ .i64 .i64 _ _ Tryd.underlying9]
  rw [if_pos ⟨by omega, by rw [hs]; omega⟩, if_pos (by omega)]
  congr 2
  apply ByteArray.ext
  rw [ByteArray.data_extract]
  apply Array.ext'
  simp only [bs, Array.toList_extract, List.extract_eq_take_drop]
  rw [show ((m : Int) + (t : Int)).toNat = m + t from by omega, Int.toNat_natCast, Nat.add_sub_cancel_left]
theorem wrap_sub (a b : Nat) (h : b ≤ a) (ha : a ≤ 1000000) : wrap64 ((a : Int) - (b : Int)) = ((a - b : Nat) : Int) := by
  unfold wrap64
  omega
theorem wrap_add (a b : Nat) (ha : a + b ≤ 1000000) : wrap64 ((a : Int) + (b : Int)) = ((a + b : Nat) : Int) := by
  unfold wrap64
  omega
theorem lays_len (s : Bs) : ∀ (L : List Piece) (k : Nat) (pl : Bool), Lays s k pl L → k + L.length ≤ s.length
  | [], k, pl, h => by show k + 0 ≤ _; have : k = s.length := h; omega
  | p :: ps, k, pl, ⟨_, h⟩ => by
    rw [List.length_cons]
    rcases h with ⟨_, hne, _, _, _, h⟩ | ⟨_, m, _, _, _, _, _, h⟩
    · have := lays_len s ps _ _ h
      have := List.length_pos_iff.2 hne
      omega
    · have := lays_len s ps _ _ h
      omega
set_option maxHeartbeats 4000000 in
set_option maxRecDepth 100000 in
theorem whole_any (s : Bs) (w : World) (hT : Tabs w) :
    Calls Tryd.prog 4 #[.string (bs s)] w fun e w' => e = .returned (.bool true) ∧ Below w.heap.size w w' := by
  have hz : (bs s).size = s.length := bs_size s
  have HF := Lib.hid (first_any w hT)
  have HL := Lib.hid (fun W (h : Tabs W) => lex_any s W h)
  have HT := Lib.hid hT; clear hT
  have HS := Lib.hid (str_mid s)
  obtain ⟨L, hLe⟩ : ∃ L, L = (lexL s).out := ⟨_, rfl⟩
  obtain ⟨at0, hat0⟩ : ∃ x, x = (lexL s).pos := ⟨_, rfl⟩
  obtain ⟨er, her⟩ : ∃ x, x = (lexL s).err := ⟨_, rfl⟩
  have hno : er ≠ 0 → L = [] ∧ at0 ≤ max s.length 20000 := by rw [hLe, hat0, her]; exact lexL_no s
  have hla : er = 0 → Lays s 0 false L := by rw [hLe, her]; exact lexL_lays s
  rw [← hLe, ← hat0, ← her] at HL
  clear hLe hat0 her
  obtain ⟨S, hS⟩ : ∃ S, S = bs s := ⟨_, rfl⟩
  rw [← hS] at hz HL HS ⊢
  clear hS
  obtain ⟨n, hn⟩ : ∃ n, n = s.length := ⟨_, rfl⟩
  rw [← hn] at hz hno HS
  have Hn := Lib.hid hn; clear hn
  have Hno := Lib.hid hno; have Hla := Lib.hid hla
  clear hno hla
  go_enter Tryd.func4, Tryd.ntmps4
  by_cases h5 : 5000 < n
  · have t1 : decide ((n : Int) > 5000) = true := by rw [decide_eq_true_eq]; omega
    go_wp2_with (go_at_call 11; refine HF.out.mono ?_; rintro e w1 ⟨rfl, b1⟩)
    go_ret
    exact ⟨rfl, b1⟩
  · have t1 : decide ((n : Int) > 5000) = false := by rw [decide_eq_false_iff_not]; omega
    by_cases he : er = 0
    · subst he
      have HLa := Lib.hid (Hla.out rfl)
      clear Hno Hla
      go_wp2_with (first | (go_at_call 11; refine HF.out.mono ?_; rintro e w1 ⟨rfl, b1⟩) | (go_at_call 12; refine (HL.out w1 (HT.out.below b1)).mono ?_; rintro e w2 ⟨v, rfl, o2, b2⟩; obtain ⟨A, c, qs, rfl, hc, hqs, hrd⟩ := o2.read; have HR := Lib.hid hrd; have HQ := Lib.hid hqs; clear o2 hrd hqs))
      have hs1 := b1.size
      have hs2 := b2.size
      have b12 := b1.trans (b2.mono hs1)
      clear HF HL b1 b2
      obtain ⟨len, hlen⟩ : ∃ len, len = L.length := ⟨_, rfl⟩
      rw [← hlen] at hc ⊢
      have hlb : len ≤ 5000 := by
        have := lays_len s L 0 false HLa.out
        rw [← hlen, ← Hn.out] at this; omega
      have Hlen := Lib.hid hlen; clear hlen
      go_loopw [4, 37] (fun at_ i wr => ∃ (j k : Nat) (pl : Bool), at_ = .int .i64 (k : Int) ∧ i = .int .i64 (j : Int) ∧ j ≤ len ∧ k ≤ n ∧ Lays s k pl (L.drop j) ∧ (∀ h : 0 < j, ∀ q, L[j - 1]? = some q → pl = decide (q.kind = 0)) ∧ Below w2.heap.size w2 wr)
        (fun _ i _ => len - (intOf i).toNat)
      case atStart => exact ⟨0, 0, false, rfl, rfl, by omega, by omega, HLa.out, fun h => absurd h (Nat.lt_irrefl 0), Below.refl _ _⟩
      case round =>
        obtain ⟨j, k, pl, rfl, rfl, hj, hk, hL, hpl, hB⟩ := hrel
        have HB := Lib.hid hB; have HPL := Lib.hid hpl
        have hsB := hB.size
        clear hB hpl
        by_cases hjl : j < len
        · have tj : decide ((j : Int) < (len : Int)) = true := by rw [decide_eq_true_eq]; omega
          have hqn : qs.length = len := by rw [Hlen.out, ← HQ.out, List.length_map]
          have hjq : j < qs.length := by omega
          have hrd := HR.out.keep HB.out
          obtain ⟨b, off, rfl, hb, hcell⟩ := hrd.at_ (by omega)
          obtain ⟨p, ps, hps⟩ : ∃ p ps, L.drop j = p :: ps := by
            cases hd : L.drop j with
            | nil => have := congrArg List.length hd; rw [List.length_drop, ← Hlen.out] at this; simp at this; omega
            | cons p ps => exact ⟨p, ps, rfl⟩
          have hpj : L[j]? = some p := by
            have := congrArg List.head? hps
            rw [List.head?_drop] at this
            exact this
          have hdj : L.drop (j + 1) = ps := by
            rw [← List.drop_drop, hps]; rfl
          have hqp : (qs[j]).1 = p := by
            rw [map_at HQ.out j hjq, List.getD_eq_getElem?_getD, hpj]; rfl
          have e0 := hcell j 0 hjq (by decide)
          have e1 := hcell j 1 hjq (by decide)
          have e2 := hcell j 2 hjq (by decide)
          have e3 := hcell j 3 hjq (by decide)
          have e4 := hcell j 4 hjq (by decide)
          have e5 := hcell j 5 hjq (by decide)
          obtain ⟨A', c', hA', _, _⟩ := HR.out.path (qs[j]) (List.getElem_mem hjq)
          rw [pcell_0, hqp, Nat.add_zero] at e0
          rw [pcell_1, hqp] at e1
          rw [pcell_2, hqp] at e2
          rw [pcell_3, hA'] at e3
          rw [pcell_4, hqp] at e4
          rw [pcell_5, hqp] at e5
          rw [hps] at hL
          obtain ⟨hpos, hL⟩ := hL
          rw [hpos] at e1
          have HC := Lib.hid hcell
          have HPJ := Lib.hid hpj; have HDJ := Lib.hid hdj
          clear hcell hpj hdj hqp hrd hA' hps
          generalize (qs[j]).1.path.length = n' at e3
          rcases hL with ⟨hk0, hne, htk, hkl, hplf, hL⟩ | ⟨hk1, m, hk5, hop, hkm, hcl, hfirst, hL⟩
          · have hsl := HS.out k p.text.length (by rw [Hn.out]; exact hkl)
            rw [htk] at hsl
            rw [hk0] at e0
            obtain ⟨TB, hTB⟩ : ∃ TB, TB = bs p.text := ⟨_, rfl⟩
            have qs1 : TB.size = p.text.length := by rw [hTB, bs_size]
            have qe : TB.toList.isEmpty = false := by
              rw [hTB, bs_toList]; cases hpt : p.text with
                | nil => exact absurd hpt hne
                | cons a l => rfl
            have qf : (TB.toList == []) = false := by
              rw [hTB, bs_toList, beq_eq_false_iff_ne]; exact hne
            have qg : (TB.toList != TB.toList) = false := by simp
            rw [← hTB] at hsl e2
            clear hTB
            have htl0 : 0 < p.text.length := List.length_pos_iff.2 hne
            obtain ⟨tl, htl⟩ : ∃ tl, tl = p.text.length := ⟨_, rfl⟩
            rw [← htl] at qs1 hsl hkl hL htl0
            have HTL := Lib.hid htl
            have HLL := Lib.hid hL
            rw [← Hn.out] at hkl
            have hw1 : IntKind.i64.wrap ((n : Int) - (k : Int)) = (n : Int) - (k : Int) := IntWalk.i64_in _ ⟨by omega, by omega⟩
            have hw2 : IntKind.i64.wrap ((k : Int) + (tl : Int)) = (k : Int) + (tl : Int) := IntWalk.i64_in _ ⟨by omega, by omega⟩
            have tsub2 : decide (IntKind.i64.wrap ((n : Int) - (k : Int)) < (tl : Int)) = false := by rw [hw1, decide_eq_false_iff_not]; omega
            have tsub : decide ((n : Int) - (k : Int) < (tl : Int)) = false := by rw [decide_eq_false_iff_not]; omega
            clear htl htk hne hL
            go_upto_region 15 with fail
            have hbW : Below w2.heap.size w2 (wr.alloc (.cells #[.int .i64 0, .int .i64 (k : Int), .string TB, .slice A' n' c', .string (bs p.name), .int .i64 (p.place : Int)] 35)) := HB.out.alloc hsB _
            have hgW := blk_new wr 35 #[.int .i64 0, .int .i64 (k : Int), .string TB, .slice A' n' c', .string (bs p.name), .int .i64 (p.place : Int)]
            have g2 := blk_cell hgW 2
            simp only [List.getElem?_cons_zero, List.getElem?_cons_succ] at g2
            have hrW := (HR.out.keep hbW)
            obtain ⟨W, hW⟩ : ∃ W, W = wr.alloc (.cells #[.int .i64 0, .int .i64 (k : Int), .string TB, .slice A' n' c', .string (bs p.name), .int .i64 (p.place : Int)] 35) := ⟨_, rfl⟩
            have g2 : W.cell? ⟨wr.heap.size, 2, none⟩ = some (.string TB) := by rw [hW]; exact g2
            rw [← hW] at hbW hrW ⊢
            obtain ⟨b', off', hbe, _, hcW⟩ := hrW.at_ (by omega)
            injection hbe with hbe
            injection hbe with hb1 hb2 _
            subst hb1 hb2
            have HBW := Lib.hid hbW; have HCW := Lib.hid hcW
            clear hbW hgW hW hrW hcW e0 e1 e2 e3 e4 e5 HC
            go_cut [87] from 49 to 87 (fun c wx => c = .bool false ∧ ∃ nq, wx = W.drewN nq)
            case first =>
              by_cases hj0 : j = 0
              · have HJ0 := Lib.hid hj0
                have t77 : decide ((j : Int) > 0) = false := by rw [decide_eq_false_iff_not]; omega
                have t77b : decide (0 < j) = false := by rw [decide_eq_false_iff_not]; omega
                clear hj0
                go_quiet (fail)
                go_wp2
                go_meet
                exact ⟨rfl, _, rfl⟩
              · have t77 : decide ((j : Int) > 0) = true := by rw [decide_eq_true_eq]; omega
                have t77b : decide (0 < j) = true := by rw [decide_eq_true_eq]; omega
                have hj1 : j - 1 < qs.length := by omega
                have hqj : L[j - 1]? = some (L.getD (j - 1) ⟨0, 0, [], [], [], 0⟩) := by
                  rw [List.getD_eq_getElem?_getD, List.getElem?_eq_getElem (by rw [← Hlen.out]; omega)]; rfl
                have hpl2 := HPL.out (by omega) _ hqj
                have d0 := HCW.out (j - 1) 0 hj1 (by decide)
                rw [pcell_0, map_at HQ.out (j - 1) hj1, Nat.add_zero] at d0
                obtain ⟨K, hK⟩ : ∃ K, K = (L.getD (j - 1) ⟨0, 0, [], [], [], 0⟩).kind := ⟨_, rfl⟩
                rw [← hK] at d0 hpl2
                have hK0 : K ≠ 0 := by
                  intro e
                  rw [hplf, e] at hpl2
                  exact absurd hpl2 (by decide)
                have tK : ((K : Int) == 0) = false := by rw [beq_eq_false_iff_ne]; omega
                have hw3 : IntKind.i64.wrap ((j : Int) - 1) = ((j - 1 : Nat) : Int) := (IntWalk.i64_in _ ⟨by omega, by omega⟩).trans (by omega)
                have hj1' : j - 1 < len := by omega
                obtain ⟨i, hi⟩ : ∃ i, i = j - 1 := ⟨_, rfl⟩
                rw [← hi] at hw3 d0 hj1'
                clear hK hpl2 hqj hj1 hi
                go_quiet (fail)
                go_wp2
                go_meet
                exact ⟨rfl, _, rfl⟩
            case rest =>
              obtain ⟨rfl, nq, rfl⟩ := hcut
              have g2' : (W.drewN nq).cell? ⟨wr.heap.size, 2, none⟩ = some (.string TB) := g2
              have hBd : Below w2.heap.size w2 (W.drewN nq) := HBW.out.trans (drew_below _ _ _)
              have HBd := Lib.hid hBd
              clear hBd HCW HBW hw1 hw2 tsub tsub2
              go_wp2_with fail
              refine ⟨⟨j + 1, k + tl, true, by go_num, by go_num, by omega, by omega, ?_, ?_, HBd.out⟩, by simp [intOf]; omega⟩
              · rw [HDJ.out]; exact HLL.out
              · intro _ q hq
                rw [Nat.add_sub_cancel, HPJ.out] at hq
                injection hq with hq
                subst hq
                rw [hk0]; rfl
          · have hx : ∀ i, i < m + 2 → (s.drop (k + i)).take 2 ≠ [125, 125] := by
              intro i hi
              by_cases h2 : 2 ≤ i
              · have := hfirst (i - 2) (by omega)
                rw [show k + 2 + (i - 2) = k + i from by omega] at this
                exact this
              · have hop2 := hop
                cases hd : s.drop k with
                | nil => rw [hd] at hop2; cases hop2
                | cons a l =>
                  cases l with
                  | nil => rw [hd] at hop2; cases hop2
                  | cons b' l =>
                    rw [hd] at hop2
                    have ha : a = 123 ∧ b' = 123 := by
                      injection hop2 with h1 h2; injection h2 with h2 _; exact ⟨h1, h2⟩
                    obtain ⟨rfl, rfl⟩ := ha
                    rcases (by omega : i = 0 ∨ i = 1) with rfl | rfl
                    · rw [Nat.add_zero, hd]; intro e; injection e with e _; exact absurd e (by decide)
                    · rw [← List.drop_drop, hd]
                      show (123 :: l).take 2 ≠ _
                      intro e; injection e with e _; exact absurd e (by decide)
            have tk : ((p.kind : Int) == 0) = false := by rw [beq_eq_false_iff_ne]; omega
            rw [← Hn.out] at hk5 hkm
            have hsl : ∀ W, (Instr.slice 9 (.string S) (some (.int .i64 (k : Int))) (some (.int .i64 ((k : Int) + 2))) none).run Tryd.prog W = .ok (.string ⟨#[123, 123]⟩) W := by
              intro W
              have := HS.out k 2 (by omega) W
              rw [hop] at this
              exact this
            have t5 : decide ((n : Int) - (k : Int) < 5) = false := by rw [decide_eq_false_iff_not]; omega
            have HX := Lib.hid hx; have HCL := Lib.hid hcl; have HLL := Lib.hid hL
            clear hx hcl hfirst hL hop
            go_upto_region 18 with fail
            have hbW : Below w2.heap.size w2 (wr.alloc (.cells #[.int .i64 (p.kind : Int), .int .i64 (k : Int), .string (bs p.text), .slice A' n' c', .string (bs p.name), .int .i64 (p.place : Int)] 35)) := HB.out.alloc hsB _
            obtain ⟨W, hW⟩ : ∃ W, W = wr.alloc (.cells #[.int .i64 (p.kind : Int), .int .i64 (k : Int), .string (bs p.text), .slice A' n' c', .string (bs p.name), .int .i64 (p.place : Int)] 35) := ⟨_, rfl⟩
            rw [← hW] at hbW ⊢
            have HBW := Lib.hid hbW
            clear hbW hW e0 e1 e2 e3 e4 e5 HC
            go_wp2_with fail
            go_loopw [4] (fun a wx => ∃ i : Nat, a = .int .i64 (i : Int) ∧ k ≤ i ∧ i ≤ k + m + 2 ∧ Below w2.heap.size w2 wx) (fun a _ => k + m + 2 - (intOf a).toNat)
            case atStart => exact ⟨k, rfl, by omega, by omega, HBW.out⟩
            case round =>
              obtain ⟨i, rfl, hik, hi, hbx⟩ := hrel
              have HBX := Lib.hid hbx; clear hbx
              have hin : i < n := by omega
              have hin2 : i + 2 ≤ n := by omega
              have ta : decide ((i : Int) < (n : Int)) = true := by rw [decide_eq_true_eq]; omega
              have tb : decide ((i : Int) + 2 > (n : Int)) = false := by rw [decide_eq_false_iff_not]; omega
              have hsl2 : ∀ W, (Instr.slice 9 (.string S) (some (.int .i64 (i : Int))) (some (.int .i64 ((i : Int) + 2))) none).run Tryd.prog W = .ok (.string (bs ((s.drop i).take 2))) W := by
                intro W
                exact HS.out i 2 (by omega) W
              by_cases him : i < k + m + 2
              · have hxi := HX.out (i - k) (by omega)
                rw [show k + (i - k) = i from by omega] at hxi
                obtain ⟨XB, hXB⟩ : ∃ XB, XB = bs ((s.drop i).take 2) := ⟨_, rfl⟩
                have tn : (XB.toList != [125, 125]) = true := by
                  rw [bne_iff_ne, hXB, bs_toList]; exact hxi
                have tn2 : (XB.toList == [125, 125]) = false := by
                  rw [beq_eq_false_iff_ne, hXB, bs_toList]; exact hxi
                rw [← hXB] at hsl2
                clear hXB hxi hsl
                go_wp2_with fail
                refine ⟨⟨i + 1, by go_num, by omega, by omega, ?_⟩, by simp [intOf]; omega⟩
                first | exact HBX.out | exact HBX.out.trans (drew_below _ _ _)
              · obtain rfl : i = k + (2 + m) := by omega
                have hxe : bs ((s.drop (k + (2 + m))).take 2) = ⟨#[125, 125]⟩ := by
                  rw [← Nat.add_assoc, HCL.out]; rfl
                rw [hxe] at hsl2
                obtain ⟨i, hi'⟩ : ∃ i, i = k + (2 + m) := ⟨_, rfl⟩
                rw [← hi'] at hsl2 ta tb hin hin2 ⊢
                have HI := Lib.hid hi'
                clear hxe hsl hi'
                go_wp2_with fail
                refine ⟨⟨j + 1, k + (m + 4), false, by rw [HI.out]; go_num, by go_num, by omega, by omega, ?_, ?_, (by first | exact HBX.out | exact HBX.out.trans (drew_below _ _ _))⟩, by simp [intOf]; omega⟩
                · rw [HDJ.out]; exact HLL.out
                · intro _ q hq
                  rw [Nat.add_sub_cancel, HPJ.out] at hq
                  injection hq with hq
                  subst hq
                  rw [decide_eq_false hk1]
        · obtain rfl : j = len := by omega
          have hkn : k = n := by
            rw [List.drop_of_length_le (by rw [Hlen.out]; exact Nat.le_refl _)] at hL
            rw [Hn.out]; exact hL
          subst hkn
          have tj : decide ((j : Int) < (j : Int)) = false := by rw [decide_eq_false_iff_not]; omega
          clear hL
          go_wp2_with fail
          go_ret
          exact ⟨rfl, b12.trans (HB.out.mono (Nat.le_trans hs1 hs2))⟩
    · obtain ⟨rfl, hat⟩ := Hno.out he
      have te : ((er : Int) != 0) = true := by rw [bne_iff_ne]; omega
      have t2 : decide ((at0 : Int) ≥ 0) = true := by rw [decide_eq_true_eq]; omega
      have t3 : decide ((at0 : Int) ≤ max (n : Int) 20000) = true := by rw [decide_eq_true_eq]; omega
      go_wp2_with (first | (go_at_call 11; refine HF.out.mono ?_; rintro e w1 ⟨rfl, b1⟩) | (go_at_call 12; refine (HL.out w1 (HT.out.below b1)).mono ?_; rintro e w2 ⟨v, rfl, o2, b2⟩; obtain ⟨A, c, qs, rfl, hc, hqs, hrd⟩ := o2.read; have b12 := b1.trans (b2.mono b1.size); clear o2 hrd))
      go_ret
      exact ⟨rfl, b12⟩
end Go.Proofs.YthilkpjdfjjikaaDoor
