/-
  lex.Lex, walked.
-/
import Derived.Deep.CutBlock
import Derived.Deep.DeepCutAuto
import Derived.OwnWalk
import Derived.Test.YthilkpjdfjjikaaDoorBadM
set_option linter.unusedVariables false
set_option linter.unusedSimpArgs false
namespace Go.Proofs.YthilkpjdfjjikaaDoor
open Go.RowKit

theorem cut_any (a sep : Bs) (w : World) (hT : Tabs w) (hl : a.length ≤ 1000000) : Calls Tryd.prog 27 #[.string (bs a), .string (bs sep)] w fun e w' => e = .returned (.tuple #[.string (bs (Lib.cut a sep).1), .string (bs (Lib.cut a sep).2.1), .bool (Lib.cut a sep).2.2]) ∧ ∃ q, w' = w.drewN q := by
  obtain ⟨m, hm⟩ := hT.2.2
  exact Tryd.strings_Cut (bs a) (bs sep) m w (by rw [bs_size]; omega) hm
theorem drew_below (w : World) (B q : Nat) : Below B w (w.drewN q) := ⟨rfl, rfl, rfl, Nat.le_refl _, fun _ _ => rfl⟩
theorem ne_bs (l : Bs) : ((bs l).toList != []) = decide (l ≠ []) := by rw [bs_toList, Bool.eq_iff_iff]; simp
theorem lexFrom_step (s : Bs) (F k : Nat) (m : Mach) (out : List Piece) (hk : k < s.length) (lit rest : Bs) (more : Bool) (hc : Lib.cut (s.drop k) [123, 123] = (lit, rest, more)) (words rest2 : Bs) (whole : Bool) (hd : Lib.cut rest [125, 125] = (words, rest2, whole)) :
    lexFrom s (F + 1) k m out = if more = false then lexEnd s.length (lit.foldl stepM m) (litP k lit out) else
      match tagL words with
      | none => ⟨[], k + lit.length, 170⟩
      | some p => if whole = false then ⟨[], k + lit.length, 170⟩
        else if (placeL (lit.foldl stepM m).st (lit.foldl stepM m).attr (lit.foldl stepM m).filled).2 = false ∨ (p.kind ≠ 1 ∧ (placeL (lit.foldl stepM m).st (lit.foldl stepM m).attr (lit.foldl stepM m).filled).1 ≠ 0) then ⟨[], k + lit.length, 171⟩
        else lexFrom s F (k + lit.length + (words.length + 4)) { (lit.foldl stepM m) with filled := true } (litP k lit out ++ [⟨p.kind, k + lit.length, [], p.path, p.name, (placeL (lit.foldl stepM m).st (lit.foldl stepM m).attr (lit.foldl stepM m).filled).1⟩]) := by
  rw [lexFrom, if_pos hk, hc]
  dsimp only
  rw [hd]
  rfl
theorem str_at (l : Bs) (i : Nat) (h : i < l.length) (w : World) : (Instr.index 9 (.string (bs l)) (.int .i64 (i : Int))).run Tryd.prog w = .ok (.int .u8 (((l.getD i 0).toNat : Nat) : Int)) w := by
  rw [run_index_string _ _ _ _ _ Tryd.underlying9]
  have hs : (bs l).size = l.length := bs_size l
  rw [dif_pos ⟨by omega, by rw [hs]; omega⟩]
  have e : ((bs l)[(i : Int).toNat]'(by rw [hs]; omega)) = l.getD i 0 := by
    show l.toArray[(i : Int).toNat]'_ = _
    simp [h]
  rw [e]
theorem fold_snoc (l : Bs) (j : Nat) (h : j < l.length) (m : Mach) : (l.take (j + 1)).foldl stepM m = stepM ((l.take j).foldl stepM m) (l.getD j 0) := by
  rw [List.take_succ_eq_append_getElem h, List.foldl_append]
  simp [h]
theorem wrap_sum (a b c n : Nat) (h : a + b + (c + 4) ≤ n) (hn : n ≤ 20000) : wrap64 ((a : Int) + (b : Int) + wrap64 ((c : Int) + 4)) = ((a + b + (c + 4) : Nat) : Int) := by
  unfold wrap64
  omega
set_option maxHeartbeats 8000000 in
set_option maxRecDepth 100000 in
theorem lex_any (s : Bs) (w : World) (hT : Tabs w) :
    Calls Tryd.prog 12 #[.string (bs s)] w fun e w' => ∃ v, e = .returned (.tuple #[v, .int .i64 (((lexL s).pos : Nat) : Int), .int .i64 (((lexL s).err : Nat) : Int)]) ∧ PRow w' w.heap.size v (lexL s).out ∧ Below w.heap.size w w' := by
  have hz : (bs s).size = s.length := bs_size s
  by_cases h2 : 20000 < s.length
  · have t1 : decide ((s.length : Int) > 20000) = true := by rw [decide_eq_true_eq]; omega
    have hr : lexL s = ⟨[], 20000, 72⟩ := by unfold lexL; rw [if_pos h2]
    rw [hr]
    clear hr
    go_enter Tryd.func12, Tryd.ntmps12
    go_wp2_with fail
    go_ret3
    exact ⟨_, rfl, PRow.nil _ _, Below.refl _ _⟩
  · have t1 : decide ((s.length : Int) > 20000) = false := by rw [decide_eq_false_iff_not]; omega
    have H26 := Lib.hid (bad_any s w hT (by omega))
    cases hb : badL s with
    | some i =>
      rw [hb] at H26
      have hr : lexL s = ⟨[], i, 20⟩ := by unfold lexL; rw [if_neg h2, hb]
      rw [hr]
      have ti : decide (((i : Nat) : Int) ≥ 0) = true := by rw [decide_eq_true_eq]; omega
      rw [show badZ (some i) = (i : Int) from rfl] at H26
      clear hr hb
      go_enter Tryd.func12, Tryd.ntmps12
      go_wp2_with fail
      refine H26.out.mono ?_
      rintro e w1 ⟨rfl, b1⟩
      go_wp2_with fail
      go_ret3
      exact ⟨_, rfl, PRow.nil _ _, b1⟩
    | none =>
      rw [hb] at H26
      rw [show badZ none = -1 from rfl] at H26
      have hr : lexL s = lexFrom s (s.length + 1) 0 mach0 [] := by unfold lexL; rw [if_neg h2, hb]
      rw [hr]
      clear hr hb
      obtain ⟨R, hR⟩ : ∃ R, R = lexFrom s (s.length + 1) 0 mach0 [] := ⟨_, rfl⟩
      rw [← hR]
      have HR := Lib.hid hR; clear hR
      have HSL := Lib.hid (str_from s)
      obtain ⟨S, hS⟩ : ∃ S, S = bs s := ⟨_, rfl⟩
      rw [← hS] at hz H26 HSL ⊢
      clear hS
      obtain ⟨n, hn⟩ : ∃ n, n = s.length := ⟨_, rfl⟩
      rw [← hn] at hz h2 t1 HSL
      have Hn := Lib.hid hn; clear hn
      have HT := Lib.hid hT; clear hT
      go_enter Tryd.func12, Tryd.ntmps12
      go_wp2_with fail
      refine H26.out.mono ?_
      rintro e w1 ⟨rfl, b1⟩
      have hs1 := b1.size
      clear H26
      go_wp2_with fail
      obtain ⟨G, hG⟩ : ∃ G, G = w1.heap.size := ⟨_, rfl⟩
      have hGw : w.heap.size ≤ G := by rw [hG]; exact hs1
      have HG := Lib.hid hG
      go_loopw [7, 8] (fun v i wr => ∃ (k : Nat) (m : Mach) (out : List Piece) (F : Nat), i = .int .i64 k ∧ k ≤ n ∧ R = lexFrom s F k m out ∧ n - k < F ∧ m.st ≤ 12 ∧ sz m ≤ k ∧ out.length ≤ k ∧ IsMach wr G m ∧ PRow wr w.heap.size v out ∧ Below w.heap.size w wr)
        (fun _ i _ => n - (intOf i).toNat)
      case atStart =>
        refine ⟨0, mach0, [], n + 1, rfl, by omega, by rw [HR.out, Hn.out], by omega, by decide, by decide, by decide, ?_, PRow.nil _ _, (b1.alloc hs1 _)⟩
        rw [hG]
        exact blk_new w1 58 _
      case round =>
        obtain ⟨k, m, out, F, rfl, hk, hR, hF, hst, hsz, hol, hm, hp, hB⟩ := hrel
        obtain ⟨A0, c0, rfl, hc0⟩ := hp.form
        have HM := Lib.hid hm; have HP := Lib.hid hp; have HRR := Lib.hid hR; have HB := Lib.hid hB
        have hsB := hB.size
        clear hm hp hR hB
        by_cases hkn : k < n
        · have tk : decide ((k : Int) < (n : Int)) = true := by rw [decide_eq_true_eq]; omega
          obtain ⟨F, rfl⟩ : ∃ F', F = F' + 1 := ⟨F - 1, by omega⟩
          have hcr := cut_room (s.drop k) [123, 123]
          obtain ⟨lit, rest, more, hcut⟩ : ∃ lit rest more, Lib.cut (s.drop k) [123, 123] = (lit, rest, more) := ⟨_, _, _, rfl⟩
          have hcr2 := cut_room rest [125, 125]
          obtain ⟨words, rest2, whole, hcut2⟩ : ∃ words rest2 whole, Lib.cut rest [125, 125] = (words, rest2, whole) := ⟨_, _, _, rfl⟩
          have hstep := lexFrom_step s F k m out (by rw [← Hn.out]; exact hkn) lit rest more hcut words rest2 whole hcut2
          rw [← HRR.out, ← Hn.out] at hstep
          have HST := Lib.hid hstep; clear hstep
          rw [hcut, List.length_drop, ← Hn.out] at hcr
          rw [hcut2] at hcr2
          dsimp only at hcr hcr2
          have hdl : (s.drop k).length ≤ 1000000 := by rw [List.length_drop, ← Hn.out]; omega
          have H27 := Lib.hid (cut_any (s.drop k) [123, 123] wr (HT.out.below HB.out) hdl)
          rw [hcut] at H27
          have H27' : Hid (Calls Tryd.prog 27 #[.string (bs (s.drop k)), .string ⟨#[123, 123]⟩] wr fun e w' => e = .returned (.tuple #[.string (bs lit), .string (bs rest), .bool more]) ∧ ∃ q, w' = wr.drewN q) := H27
          have hsl := HSL.out k hk wr
          clear H27 hdl hcut
          have qn := ne_bs lit
          have qe : (bs lit).toList.isEmpty = decide (lit = []) := by rw [bs_toList]; cases lit <;> simp
          have hB2 : Below w.heap.size w (wr.drewN 0) := HB.out
          go_upto_if 43 with (go_at_call 27; refine H27'.out.mono ?_; rintro e w2 ⟨rfl, q2, rfl⟩)
          clear hsl
          have hm2 : IsMach (wr.drewN q2) G m := blk_drewN HM.out q2
          have hp2 : PRow (wr.drewN q2) w.heap.size (.slice A0 out.length c0) out := HP.out
          have hbb : Below w.heap.size w (wr.drewN q2) := HB.out.trans (drew_below _ _ _)
          have hgs : G < (wr.drewN q2).heap.size := blk_lt hm2
          obtain ⟨W2, hW2⟩ : ∃ W2, W2 = wr.drewN q2 := ⟨_, rfl⟩
          rw [← hW2] at hm2 hp2 hbb hgs ⊢
          have HM2 := Lib.hid hm2; have HP2 := Lib.hid hp2; have HB2 := Lib.hid hbb
          clear hW2 hm2 hp2 hbb HM HP HB H27' hsB hB2
          go_cut [7] (fun v wx => IsMach wx G m ∧ PRow wx w.heap.size v (litP k lit out) ∧ Below w.heap.size w wx)
          case first =>
            by_cases hlit : lit = []
            · rw [decide_eq_false (by simpa using hlit)] at qn
              have ed : decide (lit = []) = true := decide_eq_true hlit
              simp only [ed, Bool.not_true]
              go_wp2_with fail
              go_meet
              exact ⟨HM2.out, by unfold litP; rw [if_pos hlit]; exact HP2.out, HB2.out⟩
            · rw [decide_eq_true (by simpa using hlit)] at qn
              have ed : decide (lit = []) = false := decide_eq_false hlit
              simp only [ed, Bool.not_false]
              obtain ⟨qs, hq1, hq2, hq3⟩ := HP2.out
              have HQ2 := Lib.hid hq2; have HQ1 := Lib.hid hq1; have HQ3 := Lib.hid hq3
              have hsw : w.heap.size ≤ W2.heap.size := HB2.out.size
              clear hq1 hq2 hq3
              go_wp2_with (at_builtin; refine wpList_pushG rfl (.tmp 44) (.tmp 48) 23 rfl w.heap.size 35 (.agg #[.int .i64 0, .int .i64 0, .string ⟨#[]⟩, .slice none 0 0, .string ⟨#[]⟩, .int .i64 0]) 6 80 Tryd.underlying23 (by kernel_rfl) rfl (by decide) (.slice A0 out.length c0) out.length _ rfl HQ2.out _ 1 (by decide) rfl rfl (by simp [Value.oneCell']) (by omega) (by omega) hsw ?_; intro g4 cap4 w4 hown4 hg4 hb4 hgr4; have Hown4 := Lib.hid hown4; have HG4 := Lib.hid hgr4; have HB4 := Lib.hid hb4; clear hown4 hgr4 hb4)
              go_meet
              refine ⟨?_, ?_, HB2.out.trans HB4.out⟩
              · refine blk_grown HM2.out HG4.out (fun g' hg' => ?_)
                obtain ⟨cur, hc⟩ := own_block HQ2.out hg'
                exact ⟨cur, 35, (0, 0), hc, by decide⟩
              · unfold litP
                rw [if_neg hlit]
                exact PRow.pushed qs HQ1.out HQ2.out HQ3.out ⟨0, k, lit, [], [], 0⟩ (.slice none 0 0) (World.ownsRow_nil _ _ _ _) HG4.out Hown4.out
          case rest =>
            obtain ⟨hm3, hp3, hb3⟩ := hcut
            obtain ⟨A3, c3, rfl, hc3⟩ := hp3.form
            have hg3 := blk_lt hm3
            have HP3 := Lib.hid hp3; have HB3 := Lib.hid hb3; have HM3 := Lib.hid hm3
            clear qn qe hm3 hp3 hb3
            have Hcr := Lib.hid hcr; have Hcr2 := Lib.hid hcr2; have Hcut2 := Lib.hid hcut2
            have hll : lit.length ≤ n - k := by
              have := Hcr.out
              omega
            have hlz := bs_size lit
            clear hcr hcr2 hcut2
            go_wp2_with fail
            go_loopw [52] (fun i wr2 => ∃ j : Nat, i = .int .i64 j ∧ j ≤ lit.length ∧ IsMach wr2 G ((lit.take j).foldl stepM m) ∧ wc.grownBy wr2 (some G))
              (fun i _ => lit.length - (intOf i).toNat)
            case atStart => exact ⟨0, rfl, Nat.zero_le _, HM3.out, World.grownBy.refl _ _⟩
            case round =>
              obtain ⟨j, rfl, hj, hmj, hgj⟩ := hrel
              have HMj := Lib.hid hmj; have HGj := Lib.hid hgj
              clear hmj hgj
              by_cases hjl : j < lit.length
              · have hix := str_at lit j hjl wr
                have hfs := fold_sz (lit.take j) m
                have htl : (lit.take j).length = j := by rw [List.length_take]; omega
                have hsn := fold_snoc lit j hjl m
                have hst2 := hfs.2 hst
                have hsz2 := hfs.1
                have hszM : sz ((lit.take j).foldl stepM m) ≤ 1000000 := by omega
                have H28 := Lib.hid (step_any G ((lit.take j).foldl stepM m) (lit.getD j 0) wr HMj.out hst2 hszM)
                rw [← hsn] at H28
                have H28' : Hid (Calls Tryd.prog 28 #[.pointer (some ⟨G, 0, none⟩), .int .u8 (((lit.getD j 0).toNat : Nat) : Int)] wr fun e w' => (∃ v, e = .returned v) ∧ IsMach w' G ((lit.take (j + 1)).foldl stepM m) ∧ wr.grownBy w' (some G)) := H28
                obtain ⟨x, hx⟩ : ∃ x, x = lit.getD j 0 := ⟨_, rfl⟩
                rw [← hx] at hix H28'
                clear hfs htl hsn hst2 hsz2 H28 hx
                rw [hG] at H28'
                go_wp2_with (go_at_call 28; refine H28'.out.mono ?_; rintro e w5 ⟨⟨v5, rfl⟩, hm5, hg5⟩)
                rw [← HG.out] at hm5 hg5
                exact ⟨⟨j + 1, by go_num, by omega, hm5, HGj.out.trans hg5⟩, by simp [intOf]; omega⟩
              · obtain rfl : j = lit.length := by omega
                rw [List.take_length] at HMj
                have hpj := HP3.out.grown HGj.out HM3.out (by decide) (by decide)
                have hbj : Below w.heap.size w wr := (HB3.out).trans ⟨HGj.out.os, HGj.out.tape, HGj.out.output, HGj.out.size, fun i hi => HGj.out.block i (by have := HB3.out.size; omega) (by intro e; injection e with e; omega)⟩
                have hfs := fold_sz lit m
                obtain ⟨M, hMe⟩ : ∃ M, M = lit.foldl stepM m := ⟨_, rfl⟩
                rw [← hMe] at HMj hfs HST
                clear hMe
                have hMst := hfs.2 hst
                have hMsz := hfs.1
                obtain ⟨L, hLe⟩ : ∃ L, L = litP k lit out := ⟨_, rfl⟩
                have hLl : L.length ≤ k + lit.length := by
                  rw [hLe]; unfold litP
                  split
                  · omega
                  · rename_i hne
                    have : 0 < lit.length := List.length_pos_iff.2 hne
                    rw [List.length_append, List.length_singleton]; omega
                rw [← hLe] at HST hpj ⊢
                clear hfs
                have HPj := Lib.hid hpj; have HBj := Lib.hid hbj
                have d0 := blk_cell HMj.out 0
                simp only [mcells, List.getElem?_cons_zero] at d0
                rw [hG] at d0
                clear hpj hbj HGj HM3 HP3 HB3 hg3 hLe
                cases more with
                | false =>
                  rw [if_pos rfl] at HST
                  by_cases h0 : M.st = 0
                  · have hR : R = ⟨L, 0, 0⟩ := by rw [HST.out]; unfold lexEnd; rw [if_pos h0]
                    rw [h0] at d0
                    have HRf := Lib.hid hR
                    clear hR HST h0 hMst hMsz hLl
                    go_wp2_with fail
                    go_ret3
                    exact ⟨_, by rw [HRf.out]; rfl, by rw [HRf.out]; exact HPj.out, HBj.out⟩
                  · have hR : R = ⟨[], n, 171⟩ := by rw [HST.out]; unfold lexEnd; rw [if_neg h0]
                    have t0 : ((M.st : Int) != 0) = true := by rw [bne_iff_ne]; omega
                    have HRf := Lib.hid hR
                    clear hR HST h0 hMst hMsz hLl
                    go_wp2_with fail
                    go_ret3
                    exact ⟨_, by rw [HRf.out]; rfl, by rw [HRf.out]; exact PRow.nil _ _, HBj.out⟩
                | true =>
                  rw [if_neg (by decide)] at HST
                  have hrl : lit.length + (2 + rest.length) = n - k := Hcr.out
                  have H27 := Lib.hid (cut_any rest [125, 125] wr (HT.out.below HBj.out) (by omega))
                  rw [Hcut2.out] at H27
                  have H27' : Hid (Calls Tryd.prog 27 #[.string (bs rest), .string ⟨#[125, 125]⟩] wr fun e w' => e = .returned (.tuple #[.string (bs words), .string (bs rest2), .bool whole]) ∧ ∃ q, w' = wr.drewN q) := H27
                  have hwl : words.length ≤ rest.length := by have := Hcr2.out; omega
                  have h29 : ∀ W : World, Below w.heap.size w W → Calls Tryd.prog 29 #[.string (bs words)] W fun e w' => (∃ k pv nm ok, e = .returned (.tuple #[.agg (pcells k pv nm), .bool ok]) ∧ TagR w' W.heap.size k pv nm ok (tagL words)) ∧ Below W.heap.size W w' := fun W hb => tag_piece words W (HT.out.below hb) (by omega)
                  clear H27
                  cases ht : tagL words with
                  | none =>
                    have hR : R = ⟨[], k + lit.length, 170⟩ := by rw [HST.out, ht]
                    have H29 : Hid (∀ W : World, Below w.heap.size w W → Calls Tryd.prog 29 #[.string (bs words)] W fun e w' => (∃ k nm, e = .returned (.tuple #[.agg #[.int .i64 ((k : Nat) : Int), .int .i64 0, .string (bs []), .slice none 0 0, .string (bs nm), .int .i64 0], .bool false])) ∧ Below W.heap.size W w') := by
                      intro W hb
                      refine (h29 W hb).mono ?_
                      rintro e w' ⟨⟨kk, pv, nm, ok, he, hr⟩, hbw⟩
                      rw [ht] at hr
                      obtain ⟨rfl, rfl⟩ : ok = false ∧ pv = .slice none 0 0 := hr
                      exact ⟨⟨kk, nm, he⟩, hbw⟩
                    have HRf := Lib.hid hR
                    clear hR HST ht h29 hMst hMsz hLl
                    go_wp2_with (first | (go_at_call 27; refine H27'.out.mono ?_; rintro e w5 ⟨rfl, q5, rfl⟩) | (go_at_call 29; refine (H29.out _ (HBj.out.trans (drew_below _ _ _))).mono ?_; rintro e w6 ⟨⟨k6, nm6, rfl⟩, hb6⟩))
                    all_goals go_ret3
                    all_goals refine ⟨_, by rw [HRf.out]; rfl, by rw [HRf.out]; exact PRow.nil _ _, ?_⟩
                    all_goals exact ((HBj.out.trans (drew_below _ _ _)).trans (hb6.mono HBj.out.size)).alloc ((HBj.out.trans (drew_below _ _ _)).trans (hb6.mono HBj.out.size)).size _
                  | some p =>
                    rw [ht] at HST
                    dsimp only at HST
                    have H29 : Hid (∀ W : World, Below w.heap.size w W → Calls Tryd.prog 29 #[.string (bs words)] W fun e w' => ∃ A n c, e = .returned (.tuple #[.agg #[.int .i64 ((p.kind : Nat) : Int), .int .i64 0, .string (bs []), .slice A n c, .string (bs p.name), .int .i64 0], .bool true]) ∧ w'.ownsRow W.heap.size 9 1 (.slice A n c) p.path.length (strs p.path) ∧ Below W.heap.size W w') := by
                      intro W hb
                      refine (h29 W hb).mono ?_
                      rintro e w' ⟨⟨kk, pv, nm, ok, he, hr⟩, hbw⟩
                      rw [ht] at hr
                      obtain ⟨rfl, rfl, rfl, ho⟩ : ok = true ∧ kk = p.kind ∧ nm = p.name ∧ w'.ownsRow W.heap.size 9 1 pv p.path.length (strs p.path) := hr
                      obtain ⟨A, c, rfl, _⟩ := own_form ho
                      exact ⟨A, _, c, he, ho, hbw⟩
                    clear h29 ht
                    cases whole with
                    | false =>
                      rw [if_pos rfl] at HST
                      have HRf := HST
                      clear HST hMst hMsz hLl
                      go_wp2_with (first | (go_at_call 27; refine H27'.out.mono ?_; rintro e w5 ⟨rfl, q5, rfl⟩) | (go_at_call 29; refine (H29.out _ (HBj.out.trans (drew_below _ _ _))).mono ?_; rintro e w6 ⟨A6, n6, c6, rfl, ho6, hb6⟩))
                      all_goals go_ret3
                      all_goals refine ⟨_, by rw [HRf.out]; rfl, by rw [HRf.out]; exact PRow.nil _ _, ?_⟩
                      all_goals exact ((HBj.out.trans (drew_below _ _ _)).trans (hb6.mono HBj.out.size)).alloc ((HBj.out.trans (drew_below _ _ _)).trans (hb6.mono HBj.out.size)).size _
                    | true =>
                      rw [if_neg (by decide)] at HST
                      have hwr : words.length + (2 + rest2.length) = rest.length := Hcr2.out
                      obtain ⟨PL, hPLe⟩ : ∃ PL, PL = placeL M.st M.attr M.filled := ⟨_, rfl⟩
                      rw [← hPLe] at HST
                      have h30 : ∀ W : World, IsMach W w1.heap.size M → Calls Tryd.prog 30 #[.pointer (some ⟨w1.heap.size, 0, none⟩)] W fun e w' => e = .returned (.tuple #[.int .i64 ((PL.1 : Nat) : Int), .bool PL.2]) ∧ Below W.heap.size W w' := by
                        rw [hPLe]
                        exact fun W h => place_any w1.heap.size M W h
                      have HMw : Hid (IsMach wr w1.heap.size M) := by rw [← hG]; exact HMj.out
                      obtain ⟨pl, may⟩ := PL
                      dsimp only at HST h30
                      have H30 := Lib.hid h30
                      clear hPLe h30
                      have hG1 : w1.heap.size < wr.heap.size := blk_lt HMw.out
                      have hs27 := HBj.out.size
                      go_wp2_with (first | (go_at_call 27; refine H27'.out.mono ?_; rintro e w5 ⟨rfl, q5, rfl⟩) | (go_at_call 29; refine (H29.out _ (HBj.out.trans (drew_below _ _ _))).mono ?_; rintro e w6 ⟨A6, n6, c6, rfl, ho6, hb6⟩; have hs6 : wr.heap.size ≤ w6.heap.size := hb6.size; have HM6 := Lib.hid (show IsMach w6 w1.heap.size M from blk_below HMw.out ((drew_below wr _ q5).trans hb6) hG1); have HO6 := Lib.hid ho6; have HB6 := Lib.hid hb6; clear hb6 ho6))
                      refine (H30.out _ (blk_alloc HM6.out _)).mono ?_
                      rintro e w8 ⟨rfl, hb8⟩
                      have hG6 : w1.heap.size < w6.heap.size := by omega
                      have hgp : Blk w8 w6.heap.size 35 [.int .i64 ((p.kind : Nat) : Int), .int .i64 0, .string (bs []), .slice A6 n6 c6, .string (bs p.name), .int .i64 0] := (hb8.block w6.heap.size (by simp)).trans (heap_alloc_new w6 _)
                      have hm8 : IsMach w8 w1.heap.size M := (hb8.block w1.heap.size (by simp; omega)).trans (blk_alloc HM6.out _)
                      have hb68 : Below w6.heap.size w6 w8 := ((Below.refl _ w6).alloc (Nat.le_refl _) _).trans (hb8.mono (by simp))
                      have hw6 : Below w.heap.size w w6 := (HBj.out.trans (drew_below _ _ _)).trans (HB6.out.mono hs27)
                      have hw8 : Below w.heap.size w w8 := hw6.trans (hb68.mono hw6.size)
                      have hs8 : w6.heap.size < w8.heap.size := blk_lt hgp
                      have e0 := blk_cell hgp 0; have e1 := blk_cell hgp 1; have e2 := blk_cell hgp 2; have e3 := blk_cell hgp 3; have e4 := blk_cell hgp 4; have e5 := blk_cell hgp 5
                      have f1 := blk_frozen hgp 1; have f5 := blk_frozen hgp 5
                      have g4 := blk_cell hm8 4; have fg4 := blk_frozen hm8 4
                      simp only [mcells, List.getElem?_cons_zero, List.getElem?_cons_succ] at e0 e1 e2 e3 e4 e5 g4
                      have HGP := Lib.hid hgp; have HM8 := Lib.hid hm8; have HB68 := Lib.hid hb68; have HW8 := Lib.hid hw8
                      clear hb8 hgp hm8 hb68 d0 hw6
                      by_cases hbadp : may = false ∨ (p.kind ≠ 1 ∧ pl ≠ 0)
                      · rw [if_pos hbadp] at HST
                        have HRf := HST
                        clear HST hMst hMsz hLl
                        have hfin : PRow w8 w.heap.size (.slice none 0 0) [] := PRow.nil _ _
                        cases may with
                        | false =>
                          clear hbadp
                          go_wp2_with fail
                          go_ret3
                          exact ⟨_, by rw [HRf.out]; rfl, by rw [HRf.out]; exact hfin, HW8.out⟩
                        | true =>
                          obtain ⟨hk1, hpl⟩ : p.kind ≠ 1 ∧ pl ≠ 0 := hbadp.resolve_left (by decide)
                          have tk1 : ((p.kind : Int) != 1) = true := by rw [bne_iff_ne]; omega
                          have tpl : ((pl : Int) != 0) = true := by rw [bne_iff_ne]; omega
                          clear hbadp
                          go_wp2_with fail
                          go_ret3
                          exact ⟨_, by rw [HRf.out]; rfl, by rw [HRf.out]; exact hfin, HW8.out⟩
                      · rw [if_neg hbadp] at HST
                        obtain rfl : may = true := by
                          cases may with
                          | true => rfl
                          | false => exact absurd (.inl rfl) hbadp
                        have hpos : ((k + lit.length : Nat) : Int) = (k : Int) + (lit.length : Int) := by omega
                        -- the rows, at the world in which the piece is appended
                        have hB9 : Below w6.heap.size w6 ((w8.setCell ⟨w6.heap.size, 1, none⟩ (.int .i64 ((k : Int) + (lit.length : Int)))).setCell ⟨w6.heap.size, 5, none⟩ (.int .i64 ((pl : Nat) : Int))) := (HB68.out.setCell (Nat.le_refl _) _).setCell (Nat.le_refl _) _
                        have hp6 : PRow w6 w.heap.size (.slice A3 L.length c3) L := HPj.out.below ((drew_below wr _ q5).trans HB6.out)
                        have hM9 : IsMach ((w8.setCell ⟨w6.heap.size, 1, none⟩ (.int .i64 ((k : Int) + (lit.length : Int)))).setCell ⟨w6.heap.size, 5, none⟩ (.int .i64 ((pl : Nat) : Int))) w1.heap.size M := blk_far (blk_far HM8.out (by show w1.heap.size ≠ w6.heap.size; omega) _) (by show w1.heap.size ≠ w6.heap.size; omega) _
                        have hp9 := (hp6.below hB9).grown (gb_set _ w1.heap.size 4 (.bool true)) hM9 (by decide) (by decide)
                        have ho9 : (((w8.setCell ⟨w6.heap.size, 1, none⟩ (.int .i64 ((k : Int) + (lit.length : Int)))).setCell ⟨w6.heap.size, 5, none⟩ (.int .i64 ((pl : Nat) : Int))).setCell ⟨w1.heap.size, 4, none⟩ (.bool true)).ownsRow w.heap.size 9 1 (.slice A6 n6 c6) p.path.length (strs p.path) :=
                          own_type (own_base (own_below HO6.out hB9 (fun k hk => (HO6.out.lt k hk).2)) (by show w.heap.size ≤ wr.heap.size; exact hs27)) (gb_set _ w1.heap.size 4 (.bool true)) (fun g' hg' => by cases hg'; exact ⟨_, 58, (0, 0), hM9, by decide⟩)
                        have hM10 := blk_set hM9 4 (.bool true)
                        have hW9 : Below w.heap.size w (((w8.setCell ⟨w6.heap.size, 1, none⟩ (.int .i64 ((k : Int) + (lit.length : Int)))).setCell ⟨w6.heap.size, 5, none⟩ (.int .i64 ((pl : Nat) : Int))).setCell ⟨w1.heap.size, 4, none⟩ (.bool true)) := ((HW8.out.setCell (by show w.heap.size ≤ w6.heap.size; omega) _).setCell (by show w.heap.size ≤ w6.heap.size; omega) _).setCell hs1 _
                        obtain ⟨qs, hq1, hq2, hq3⟩ := hp9
                        have HQ1 := Lib.hid hq1; have HQ2 := Lib.hid hq2; have HQ3 := Lib.hid hq3; have HO9 := Lib.hid ho9; have HM10 := Lib.hid hM10; have HW9 := Lib.hid hW9
                        have hsw9 := hW9.size
                        clear hB9 hp6 hM9 ho9 hM10 hW9 hq1 hq2 hq3
                        have hgne : w6.heap.size ≠ w1.heap.size := by omega
                        have hgne2 : w1.heap.size ≠ w6.heap.size := by omega
                        have hLl2 : L.length ≤ 100000 := by omega
                        have hno : p.kind = 1 ∨ pl = 0 := by
                          by_cases h1 : p.kind = 1
                          · exact .inl h1
                          · by_cases h2 : pl = 0
                            · exact .inr h2
                            · exact absurd (.inr ⟨h1, h2⟩) hbadp
                        clear hbadp
                        have tor : (((p.kind : Nat) : Int) != 1) = true ∧ (((pl : Nat) : Int) != 0) = false ∨ (((p.kind : Nat) : Int) != 1) = false := by
                          rcases hno with e | e
                          · exact .inr (by rw [e]; rfl)
                          · by_cases h1 : p.kind = 1
                            · exact .inr (by rw [h1]; rfl)
                            · exact .inl ⟨by rw [bne_iff_ne]; omega, by rw [e]; rfl⟩
                        clear hno
                        rcases tor with ⟨tk1, tpl⟩ | tk1
                        all_goals
                          go_wp2_with (at_builtin; refine wpList_pushG rfl (.tmp 109) (.tmp 111) 23 rfl w.heap.size 35 (.agg #[.int .i64 0, .int .i64 0, .string ⟨#[]⟩, .slice none 0 0, .string ⟨#[]⟩, .int .i64 0]) 6 80 Tryd.underlying23 (by kernel_rfl) rfl (by decide) (.slice A3 L.length c3) L.length _ rfl HQ2.out _ 1 (by decide) (show Value.slice (some ⟨w8.heap.size, 0, none⟩) 1 1 = _ by rw [show (((w8.setCell ⟨w6.heap.size, 1, none⟩ (.int .i64 ((k : Int) + (lit.length : Int)))).setCell ⟨w6.heap.size, 5, none⟩ (.int .i64 ((pl : Nat) : Int))).setCell ⟨w1.heap.size, 4, none⟩ (.bool true)).heap.size = w8.heap.size from by simp]) rfl (by simp [Value.oneCell']) (by omega) (by omega) hsw9 ?_; intro g10 cap10 w10 hown10 hg10 hb10 hgr10; have Hown10 := Lib.hid hown10; have HG10 := Lib.hid hgr10; have HB10 := Lib.hid hb10; clear hown10 hgr10 hb10)
                          rw [bs_size words]
                          rw [← hpos] at Hown10
                          have hfin : PRow w10 w.heap.size (.slice (some ⟨g10, 0, none⟩) (L.length + 1) cap10) (L ++ [⟨p.kind, k + lit.length, [], p.path, p.name, pl⟩]) := by
                            refine PRow.pushed qs HQ1.out HQ2.out HQ3.out ⟨p.kind, k + lit.length, [], p.path, p.name, pl⟩ (.slice A6 n6 c6) HO9.out HG10.out ?_
                            exact Hown10.out
                          have hmf : IsMach w10 w1.heap.size { M with filled := true } := by
                            refine blk_grown HM10.out HG10.out (fun g' hg' => ?_)
                            obtain ⟨cur, hc⟩ := own_block HQ2.out hg'
                            exact ⟨cur, 35, (0, 0), hc, by decide⟩
                          rw [← hG] at hmf
                          have hsum : k + lit.length + (words.length + 4) ≤ n := by omega
                          have hszf : sz { M with filled := true } ≤ k + lit.length + (words.length + 4) := by
                            show sz M ≤ _
                            omega
                          have hwe := Lib.hid (show wrap64 ((k : Int) + (lit.length : Int) + wrap64 ((words.length : Int) + 4)) = ((k + lit.length + (words.length + 4) : Nat) : Int) from wrap_sum k lit.length words.length n hsum (by omega))
                          rw [hwe.out]
                          refine ⟨⟨k + lit.length + (words.length + 4), { M with filled := true }, L ++ [⟨p.kind, k + lit.length, [], p.path, p.name, pl⟩], F, rfl, hsum, HST.out, by omega, hMst, hszf, by rw [List.length_append, List.length_singleton]; omega, hmf, hfin, HW9.out.trans HB10.out⟩, ?_⟩
                          show n - (k + lit.length + (words.length + 4)) < n - k
                          omega
        · have tk : decide ((k : Int) < (n : Int)) = false := by rw [decide_eq_false_iff_not]; omega
          obtain ⟨F, rfl⟩ : ∃ F', F = F' + 1 := ⟨F - 1, by omega⟩
          have hend : R = lexEnd n m out := by
            rw [HRR.out, lexFrom, if_neg (by rw [← Hn.out]; exact hkn), ← Hn.out]
          have d0 := blk_cell HM.out 0
          simp only [mcells, List.getElem?_cons_zero] at d0
          rw [hG] at d0
          clear HRR
          by_cases h0 : m.st = 0
          · have hR : R = ⟨out, 0, 0⟩ := by rw [hend]; unfold lexEnd; rw [if_pos h0]
            rw [h0] at d0
            have HRf := Lib.hid hR
            clear hR hend h0
            go_wp2_with fail
            go_ret3
            exact ⟨_, by rw [HRf.out]; rfl, by rw [HRf.out]; exact HP.out, HB.out⟩
          · have hR : R = ⟨[], n, 171⟩ := by rw [hend]; unfold lexEnd; rw [if_neg h0]
            have t0 : ((m.st : Int) != 0) = true := by rw [bne_iff_ne]; omega
            have HRf := Lib.hid hR
            clear hR hend h0
            go_wp2_with fail
            go_ret3
            exact ⟨_, by rw [HRf.out]; rfl, by rw [HRf.out]; exact PRow.nil _ _, HB.out⟩
end Go.Proofs.YthilkpjdfjjikaaDoor
