/-
  The document's machine's step: more states.
-/
import Derived.Test.YthilkpjdfjjikaaDoorRst
set_option linter.unusedVariables false
set_option linter.unusedSimpArgs false
namespace Go.Proofs.YthilkpjdfjjikaaDoor
open Go.RowKit

theorem str_cut (l : Bs) (a b : Nat) (h : a ≤ b) (hb : b ≤ l.length) (w : World) : (Instr.slice 9 (.string (bs l)) (some (.int .i64 (a : Int))) (some (.int .i64 (b : Int))) none).run Tryd.prog w = .ok (.string (bs ((l.take b).drop a))) w := by
  have hs : (bs l).size = l.length := bs_size l
  rw [run_slice_string_if w 9 _ .i64 .i64 _ _ Tryd.underlying9]
  rw [if_pos ⟨by omega, by rw [hs]; omega⟩, if_pos (by omega)]
  congr 2
  apply ByteArray.ext
  rw [ByteArray.data_extract]
  apply Array.ext'
  simp only [bs, Array.toList_extract, List.extract_eq_take_drop]
  rw [Int.toNat_natCast, Int.toNat_natCast, List.drop_take]
set_option maxHeartbeats 4000000 in
set_option maxRecDepth 100000 in
theorem stp_11 (el at' seen : Bs) (q c : UInt8) (f : Bool) (hsz : seen.length ≤ 1000000) (w : World) :
    Calls Tryd.prog 33 #[walkV ⟨11, el, at', seen, q, f⟩, u8v c] w fun e w' => e = .returned (walkV (stepW ⟨11, el, at', seen, q, f⟩ c)) ∧ Below w.heap.size w w' := by
  have H53 := Lib.hid (blank_one c)
  have H54 := Lib.hid (smallR_one c)
  obtain ⟨R, hRe⟩ : ∃ R, R = stepW ⟨11, el, at', seen, q, f⟩ c := ⟨_, rfl⟩
  rw [← hRe]
  have HRe := Lib.hid hRe; clear hRe
  rw [show walkV ⟨11, el, at', seen, q, f⟩ = .agg #[.string ⟨#[66, 97, 110, 103]⟩, .string (bs el), .string (bs at'), .string (bs seen), .int .u8 ((q.toNat : Nat) : Int), .bool f] from rfl]
  unfold u8v at *
  go_enter Tryd.func33, Tryd.ntmps33
  have hcv := fun A B => conv_two w A B c
  go_upto_region 3 with (first | (go_at_call 53; refine (H53.out _).mono ?_; rintro e w1 ⟨rfl, rfl⟩) | (go_at_call 54; refine (H54.out _).mono ?_; rintro e w2 ⟨rfl, hb2⟩))
  obtain ⟨hG, hR, hB⟩ := two_blocks _ _ _ hb2
  have c0 := blk_cell hG 0; have c1 := blk_cell hG 1; have c2 := blk_cell hG 2; have c3 := blk_cell hG 3; have c4 := blk_cell hG 4; have c5 := blk_cell hG 5
  have f0 := blk_frozen hG 0; have f1 := blk_frozen hG 1; have f2 := blk_frozen hG 2; have f3 := blk_frozen hG 3; have f4 := blk_frozen hG 4; have f5 := blk_frozen hG 5
  simp only [List.getElem?_cons_zero, List.getElem?_cons_succ] at c0 c1 c2 c3 c4 c5
  have hne : w.heap.size + 1 ≠ w.heap.size := Nat.succ_ne_self _
  have HG := Lib.hid hG; have HR := Lib.hid hR; have HB := Lib.hid hB
  clear hb2 hcv hG hR hB H53 H54
  have hcv2 := fun W => conv_one W c.toNat c rfl
  have hok := cat_ok seen [c] (by simp; omega)
  have hsl : w.heap.size < w2.heap.size := blk_lt HG.out
  have hz : (bs seen ++ bs [c]).size = seen.length + 1 := by rw [bs_cat, bs_size]; simp
  go_upto_region 79 with fail
  have hGW : Blk ((w2.setCell ⟨w.heap.size, 3, none⟩ (.string (bs seen ++ bs [c]))).alloc (.cells #[.int .u8 ((c.toNat : Nat) : Int)] 5)) w.heap.size 69 [.string ⟨#[66, 97, 110, 103]⟩, .string (bs el), .string (bs at'), .string (bs seen ++ bs [c]), .int .u8 ((q.toNat : Nat) : Int), .bool f] := blk_alloc (blk_set HG.out 3 _) _
  have hRW : Blk ((w2.setCell ⟨w.heap.size, 3, none⟩ (.string (bs seen ++ bs [c]))).alloc (.cells #[.int .u8 ((c.toNat : Nat) : Int)] 5)) (w.heap.size + 1) 69 [.string ⟨#[]⟩, .string ⟨#[]⟩, .string ⟨#[]⟩, .string ⟨#[]⟩, .int .u8 0, .bool false] := blk_alloc (blk_far HR.out hne _) _
  have hBW : Below w.heap.size w ((w2.setCell ⟨w.heap.size, 3, none⟩ (.string (bs seen ++ bs [c]))).alloc (.cells #[.int .u8 ((c.toNat : Nat) : Int)] 5)) := (HB.out.setCell (Nat.le_refl _) _).alloc (by simpa using Nat.le_of_lt hsl) _
  obtain ⟨W, hW⟩ : ∃ W, W = ((w2.setCell ⟨w.heap.size, 3, none⟩ (.string (bs seen ++ bs [c]))).alloc (.cells #[.int .u8 ((c.toNat : Nat) : Int)] 5)) := ⟨_, rfl⟩
  rw [← hW] at hGW hRW hBW ⊢
  have h2 := fun (h : 2 ≤ (seen ++ [c]).length) W => str_to (seen ++ [c]) 2 h W
  have h3 := fun (h : 2 ≤ seen.length) W => str_cut (seen ++ [c]) (seen.length - 2) seen.length (by omega) (by simp) W
  rw [← bs_cat] at h2 h3
  have hcat := Lib.hid (bs_cat seen [c])
  obtain ⟨SB, hSB⟩ : ∃ SB, SB = bs seen ++ bs [c] := ⟨_, rfl⟩
  rw [← hSB] at hGW hz h2 h3 hcat
  clear hW hSB c0 c1 c2 c3 c4 c5 f0 f1 f2 f3 f4 f5 hcv2 hok
  have c0 := blk_cell hGW 0; have c1 := blk_cell hGW 1; have c2 := blk_cell hGW 2; have c3 := blk_cell hGW 3; have c4 := blk_cell hGW 4; have c5 := blk_cell hGW 5
  have f0 := blk_frozen hGW 0
  simp only [List.getElem?_cons_zero, List.getElem?_cons_succ] at c0 c1 c2 c3 c4 c5
  have HG := Lib.hid hGW; have HR := Lib.hid hRW; have HB := Lib.hid hBW; have H2 := Lib.hid h2; have H3 := Lib.hid h3
  clear hGW hRW hBW h2 h3
  by_cases h62 : c = 62
  · by_cases h2 : seen.length < 2
    · have t62 : (((c.toNat : Nat) : Int) == 62) = true := by rw [h62]; rfl
      have tlt : decide (((seen.length : Nat) : Int) < 2) = true := by rw [decide_eq_true_eq]; omega
      have tlt2 : decide (seen.length < 2) = true := by rw [decide_eq_true_eq]; omega
      have hr : R = ⟨0, el, at', (seen ++ [c]), q, f⟩ := by rw [HRe.out]; unfold stepW; rw [if_neg (by simp [startW])]; simp only [show ¬ (11 = 0) from by decide, show ¬ (11 = 1) from by decide, show ¬ (11 = 2) from by decide, show ¬ (11 = 4) from by decide, show ¬ (11 = 3) from by decide, show ¬ (11 = 5) from by decide, show ¬ (11 = 6) from by decide, show ¬ (11 = 7) from by decide, show ¬ (11 = 8) from by decide, show ¬ (11 = 9) from by decide, show ¬ (11 = 10) from by decide, if_false, if_true]; unfold bangW; rw [if_pos ⟨h62, .inl h2⟩]
      have HRf := Lib.hid hr
      clear hr HRe h62 h2 H2 H3
      go_upto_region 85 with fail
      have hG2 : Blk (W.setCell ⟨w.heap.size, 0, none⟩ (.string ⟨#[84, 101, 120, 116]⟩)) w.heap.size 69 [.string ⟨#[84, 101, 120, 116]⟩, .string (bs el), .string (bs at'), .string SB, .int .u8 ((q.toNat : Nat) : Int), .bool f] := blk_set HG.out 0 _
      have hR2 : Blk (W.setCell ⟨w.heap.size, 0, none⟩ (.string ⟨#[84, 101, 120, 116]⟩)) (w.heap.size + 1) 69 [.string ⟨#[]⟩, .string ⟨#[]⟩, .string ⟨#[]⟩, .string ⟨#[]⟩, .int .u8 0, .bool false] := blk_far HR.out hne _
      have hB2 : Below w.heap.size w (W.setCell ⟨w.heap.size, 0, none⟩ (.string ⟨#[84, 101, 120, 116]⟩)) := HB.out.setCell (Nat.le_refl _) _
      obtain ⟨V, hV⟩ : ∃ V, V = (W.setCell ⟨w.heap.size, 0, none⟩ (.string ⟨#[84, 101, 120, 116]⟩)) := ⟨_, rfl⟩
      rw [← hV] at hG2 hR2 hB2 ⊢
      clear hV c0 c1 c2 c3 c4 c5 f0
      have c0 := blk_cell hG2 0; have c1 := blk_cell hG2 1; have c2 := blk_cell hG2 2; have c3 := blk_cell hG2 3; have c4 := blk_cell hG2 4; have c5 := blk_cell hG2 5
      simp only [List.getElem?_cons_zero, List.getElem?_cons_succ] at c0 c1 c2 c3 c4 c5
      have HRW := Lib.hid hR2; have HBW := Lib.hid hB2
      clear hG2 hR2 hB2
      go_wp2_with (refine wpList_store_row rfl 69 (.tmp 4) (.tmp 232) rfl (w.heap.size + 1) #[_, _, _, _, _, _] rfl rfl 69 _ HRW.out (by kernel_rfl) rfl (by simp [Value.oneCell']) ?_)
      refine bodyPost_ret (v := .agg #[.string ⟨#[84, 101, 120, 116]⟩, .string (bs el), .string (bs at'), .string SB, .int .u8 ((q.toNat : Nat) : Int), .bool f]) (results_c Tryd.results33 _ _ _ ⟨w.heap.size + 1, 0, none⟩ _ rfl (load_walk _ (w.heap.size + 1) _ rfl ⟨_, HRW.out⟩)) rfl ?_
      exact ⟨by rw [HRf.out, hcat.out]; rfl, below_setRow HBW.out (Nat.le_succ _) _⟩
    · by_cases h45 : (seen ++ [c]).take 2 = [45, 45]
      · by_cases h46 : ((seen ++ [c]).take seen.length).drop (seen.length - 2) = [45, 45]
        · have t62 : (((c.toNat : Nat) : Int) == 62) = true := by rw [h62]; rfl
          have tlt : decide (((seen.length : Nat) : Int) < 2) = false := by rw [decide_eq_false_iff_not]; omega
          have tlt2 : decide (seen.length < 2) = false := by rw [decide_eq_false_iff_not]; omega
          have hx2 : ∀ W, (Instr.slice 9 (.string SB) none (some (.int .i64 2)) none).run Tryd.prog W = .ok (.string (bs ((seen ++ [c]).take 2))) W := H2.out (by simp; omega)
          have q2 : ((bs ((seen ++ [c]).take 2)).toList == [45, 45]) = true := by rw [bs_toList, beq_iff_eq]; exact h45
          have hx3 : ∀ W, (Instr.slice 9 (.string SB) (some (.int .i64 (((seen.length : Nat) : Int) - 2))) (some (.int .i64 ((seen.length : Nat) : Int))) none).run Tryd.prog W = .ok (.string (bs (((seen ++ [c]).take seen.length).drop (seen.length - 2)))) W := by
            intro W; rw [show ((seen.length : Nat) : Int) - 2 = ((seen.length - 2 : Nat) : Int) from by omega]; exact H3.out (by omega) W
          have q3 : ((bs (((seen ++ [c]).take seen.length).drop (seen.length - 2))).toList == [45, 45]) = true := by rw [bs_toList, beq_iff_eq]; exact h46
          have hr : R = ⟨0, el, at', (seen ++ [c]), q, f⟩ := by rw [HRe.out]; unfold stepW; rw [if_neg (by simp [startW])]; simp only [show ¬ (11 = 0) from by decide, show ¬ (11 = 1) from by decide, show ¬ (11 = 2) from by decide, show ¬ (11 = 4) from by decide, show ¬ (11 = 3) from by decide, show ¬ (11 = 5) from by decide, show ¬ (11 = 6) from by decide, show ¬ (11 = 7) from by decide, show ¬ (11 = 8) from by decide, show ¬ (11 = 9) from by decide, show ¬ (11 = 10) from by decide, if_false, if_true]; unfold bangW; rw [if_pos ⟨h62, .inr (.inr h46)⟩]
          have HRf := Lib.hid hr
          clear hr HRe h62 h2 h45 h46 H2 H3
          generalize bs ((seen ++ [c]).take 2) = XB at hx2 q2
          generalize bs (((seen ++ [c]).take seen.length).drop (seen.length - 2)) = YB at hx3 q3
          go_upto_region 85 with fail
          have hG2 : Blk (W.setCell ⟨w.heap.size, 0, none⟩ (.string ⟨#[84, 101, 120, 116]⟩)) w.heap.size 69 [.string ⟨#[84, 101, 120, 116]⟩, .string (bs el), .string (bs at'), .string SB, .int .u8 ((q.toNat : Nat) : Int), .bool f] := blk_set HG.out 0 _
          have hR2 : Blk (W.setCell ⟨w.heap.size, 0, none⟩ (.string ⟨#[84, 101, 120, 116]⟩)) (w.heap.size + 1) 69 [.string ⟨#[]⟩, .string ⟨#[]⟩, .string ⟨#[]⟩, .string ⟨#[]⟩, .int .u8 0, .bool false] := blk_far HR.out hne _
          have hB2 : Below w.heap.size w (W.setCell ⟨w.heap.size, 0, none⟩ (.string ⟨#[84, 101, 120, 116]⟩)) := HB.out.setCell (Nat.le_refl _) _
          obtain ⟨V, hV⟩ : ∃ V, V = (W.setCell ⟨w.heap.size, 0, none⟩ (.string ⟨#[84, 101, 120, 116]⟩)) := ⟨_, rfl⟩
          rw [← hV] at hG2 hR2 hB2 ⊢
          clear hV c0 c1 c2 c3 c4 c5 f0
          have c0 := blk_cell hG2 0; have c1 := blk_cell hG2 1; have c2 := blk_cell hG2 2; have c3 := blk_cell hG2 3; have c4 := blk_cell hG2 4; have c5 := blk_cell hG2 5
          simp only [List.getElem?_cons_zero, List.getElem?_cons_succ] at c0 c1 c2 c3 c4 c5
          have HRW := Lib.hid hR2; have HBW := Lib.hid hB2
          clear hG2 hR2 hB2
          go_wp2_with (refine wpList_store_row rfl 69 (.tmp 4) (.tmp 232) rfl (w.heap.size + 1) #[_, _, _, _, _, _] rfl rfl 69 _ HRW.out (by kernel_rfl) rfl (by simp [Value.oneCell']) ?_)
          refine bodyPost_ret (v := .agg #[.string ⟨#[84, 101, 120, 116]⟩, .string (bs el), .string (bs at'), .string SB, .int .u8 ((q.toNat : Nat) : Int), .bool f]) (results_c Tryd.results33 _ _ _ ⟨w.heap.size + 1, 0, none⟩ _ rfl (load_walk _ (w.heap.size + 1) _ rfl ⟨_, HRW.out⟩)) rfl ?_
          exact ⟨by rw [HRf.out, hcat.out]; rfl, below_setRow HBW.out (Nat.le_succ _) _⟩
        · have t62 : (((c.toNat : Nat) : Int) == 62) = true := by rw [h62]; rfl
          have tlt : decide (((seen.length : Nat) : Int) < 2) = false := by rw [decide_eq_false_iff_not]; omega
          have tlt2 : decide (seen.length < 2) = false := by rw [decide_eq_false_iff_not]; omega
          have hx2 : ∀ W, (Instr.slice 9 (.string SB) none (some (.int .i64 2)) none).run Tryd.prog W = .ok (.string (bs ((seen ++ [c]).take 2))) W := H2.out (by simp; omega)
          have q2 : ((bs ((seen ++ [c]).take 2)).toList == [45, 45]) = true := by rw [bs_toList, beq_iff_eq]; exact h45
          have hx3 : ∀ W, (Instr.slice 9 (.string SB) (some (.int .i64 (((seen.length : Nat) : Int) - 2))) (some (.int .i64 ((seen.length : Nat) : Int))) none).run Tryd.prog W = .ok (.string (bs (((seen ++ [c]).take seen.length).drop (seen.length - 2)))) W := by
            intro W; rw [show ((seen.length : Nat) : Int) - 2 = ((seen.length - 2 : Nat) : Int) from by omega]; exact H3.out (by omega) W
          have q3 : ((bs (((seen ++ [c]).take seen.length).drop (seen.length - 2))).toList == [45, 45]) = false := by rw [bs_toList, beq_eq_false_iff_ne]; exact h46
          have hr : R = ⟨11, el, at', (seen ++ [c]), q, f⟩ := by rw [HRe.out]; unfold stepW; rw [if_neg (by simp [startW])]; simp only [show ¬ (11 = 0) from by decide, show ¬ (11 = 1) from by decide, show ¬ (11 = 2) from by decide, show ¬ (11 = 4) from by decide, show ¬ (11 = 3) from by decide, show ¬ (11 = 5) from by decide, show ¬ (11 = 6) from by decide, show ¬ (11 = 7) from by decide, show ¬ (11 = 8) from by decide, show ¬ (11 = 9) from by decide, show ¬ (11 = 10) from by decide, if_false, if_true]; unfold bangW; rw [if_neg (by rintro ⟨_, h | h | h⟩; exact absurd h h2; exact absurd h45 h; exact absurd h h46)]
          have HRf := Lib.hid hr
          clear hr HRe h62 h2 h45 h46 H2 H3
          generalize bs ((seen ++ [c]).take 2) = XB at hx2 q2
          generalize bs (((seen ++ [c]).take seen.length).drop (seen.length - 2)) = YB at hx3 q3
          go_upto_region 85 with fail
          have HRW := HR; have HBW := HB
          go_wp2_with (refine wpList_store_row rfl 69 (.tmp 4) (.tmp 232) rfl (w.heap.size + 1) #[_, _, _, _, _, _] rfl rfl 69 _ HRW.out (by kernel_rfl) rfl (by simp [Value.oneCell']) ?_)
          refine bodyPost_ret (v := .agg #[.string ⟨#[66, 97, 110, 103]⟩, .string (bs el), .string (bs at'), .string SB, .int .u8 ((q.toNat : Nat) : Int), .bool f]) (results_c Tryd.results33 _ _ _ ⟨w.heap.size + 1, 0, none⟩ _ rfl (load_walk _ (w.heap.size + 1) _ rfl ⟨_, HRW.out⟩)) rfl ?_
          exact ⟨by rw [HRf.out, hcat.out]; rfl, below_setRow HBW.out (Nat.le_succ _) _⟩
      · have t62 : (((c.toNat : Nat) : Int) == 62) = true := by rw [h62]; rfl
        have tlt : decide (((seen.length : Nat) : Int) < 2) = false := by rw [decide_eq_false_iff_not]; omega
        have tlt2 : decide (seen.length < 2) = false := by rw [decide_eq_false_iff_not]; omega
        have hx2 : ∀ W, (Instr.slice 9 (.string SB) none (some (.int .i64 2)) none).run Tryd.prog W = .ok (.string (bs ((seen ++ [c]).take 2))) W := H2.out (by simp; omega)
        have q2 : ((bs ((seen ++ [c]).take 2)).toList == [45, 45]) = false := by rw [bs_toList, beq_eq_false_iff_ne]; exact h45
        have hr : R = ⟨0, el, at', (seen ++ [c]), q, f⟩ := by rw [HRe.out]; unfold stepW; rw [if_neg (by simp [startW])]; simp only [show ¬ (11 = 0) from by decide, show ¬ (11 = 1) from by decide, show ¬ (11 = 2) from by decide, show ¬ (11 = 4) from by decide, show ¬ (11 = 3) from by decide, show ¬ (11 = 5) from by decide, show ¬ (11 = 6) from by decide, show ¬ (11 = 7) from by decide, show ¬ (11 = 8) from by decide, show ¬ (11 = 9) from by decide, show ¬ (11 = 10) from by decide, if_false, if_true]; unfold bangW; rw [if_pos ⟨h62, .inr (.inl h45)⟩]
        have HRf := Lib.hid hr
        clear hr HRe h62 h2 h45 H2 H3
        generalize bs ((seen ++ [c]).take 2) = XB at hx2 q2
        go_upto_region 85 with fail
        have hG2 : Blk (W.setCell ⟨w.heap.size, 0, none⟩ (.string ⟨#[84, 101, 120, 116]⟩)) w.heap.size 69 [.string ⟨#[84, 101, 120, 116]⟩, .string (bs el), .string (bs at'), .string SB, .int .u8 ((q.toNat : Nat) : Int), .bool f] := blk_set HG.out 0 _
        have hR2 : Blk (W.setCell ⟨w.heap.size, 0, none⟩ (.string ⟨#[84, 101, 120, 116]⟩)) (w.heap.size + 1) 69 [.string ⟨#[]⟩, .string ⟨#[]⟩, .string ⟨#[]⟩, .string ⟨#[]⟩, .int .u8 0, .bool false] := blk_far HR.out hne _
        have hB2 : Below w.heap.size w (W.setCell ⟨w.heap.size, 0, none⟩ (.string ⟨#[84, 101, 120, 116]⟩)) := HB.out.setCell (Nat.le_refl _) _
        obtain ⟨V, hV⟩ : ∃ V, V = (W.setCell ⟨w.heap.size, 0, none⟩ (.string ⟨#[84, 101, 120, 116]⟩)) := ⟨_, rfl⟩
        rw [← hV] at hG2 hR2 hB2 ⊢
        clear hV c0 c1 c2 c3 c4 c5 f0
        have c0 := blk_cell hG2 0; have c1 := blk_cell hG2 1; have c2 := blk_cell hG2 2; have c3 := blk_cell hG2 3; have c4 := blk_cell hG2 4; have c5 := blk_cell hG2 5
        simp only [List.getElem?_cons_zero, List.getElem?_cons_succ] at c0 c1 c2 c3 c4 c5
        have HRW := Lib.hid hR2; have HBW := Lib.hid hB2
        clear hG2 hR2 hB2
        go_wp2_with (refine wpList_store_row rfl 69 (.tmp 4) (.tmp 232) rfl (w.heap.size + 1) #[_, _, _, _, _, _] rfl rfl 69 _ HRW.out (by kernel_rfl) rfl (by simp [Value.oneCell']) ?_)
        refine bodyPost_ret (v := .agg #[.string ⟨#[84, 101, 120, 116]⟩, .string (bs el), .string (bs at'), .string SB, .int .u8 ((q.toNat : Nat) : Int), .bool f]) (results_c Tryd.results33 _ _ _ ⟨w.heap.size + 1, 0, none⟩ _ rfl (load_walk _ (w.heap.size + 1) _ rfl ⟨_, HRW.out⟩)) rfl ?_
        exact ⟨by rw [HRf.out, hcat.out]; rfl, below_setRow HBW.out (Nat.le_succ _) _⟩
  · have t62 : (((c.toNat : Nat) : Int) == 62) = false := ne_beq (d := 62) h62
    have hr : R = ⟨11, el, at', (seen ++ [c]), q, f⟩ := by rw [HRe.out]; simp [stepW, startW, bangW, h62]
    have HRf := Lib.hid hr
    clear hr HRe h62 H2 H3
    go_upto_region 85 with fail
    have HRW := HR; have HBW := HB
    go_wp2_with (refine wpList_store_row rfl 69 (.tmp 4) (.tmp 232) rfl (w.heap.size + 1) #[_, _, _, _, _, _] rfl rfl 69 _ HRW.out (by kernel_rfl) rfl (by simp [Value.oneCell']) ?_)
    refine bodyPost_ret (v := .agg #[.string ⟨#[66, 97, 110, 103]⟩, .string (bs el), .string (bs at'), .string SB, .int .u8 ((q.toNat : Nat) : Int), .bool f]) (results_c Tryd.results33 _ _ _ ⟨w.heap.size + 1, 0, none⟩ _ rfl (load_walk _ (w.heap.size + 1) _ rfl ⟨_, HRW.out⟩)) rfl ?_
    exact ⟨by rw [HRf.out, hcat.out]; rfl, below_setRow HBW.out (Nat.le_succ _) _⟩
set_option maxHeartbeats 4000000 in
set_option maxRecDepth 100000 in
theorem stp_12 (el at' seen : Bs) (q c : UInt8) (f : Bool) (hsz : el.length + at'.length + seen.length ≤ 900000) (w : World) :
    Calls Tryd.prog 33 #[walkV ⟨12, el, at', seen, q, f⟩, u8v c] w fun e w' => e = .returned (walkV (stepW ⟨12, el, at', seen, q, f⟩ c)) ∧ Below w.heap.size w w' := by
  have H53 := Lib.hid (blank_one c)
  have H54 := Lib.hid (smallR_one c)
  have H56 : Hid (∀ w, Calls Tryd.prog 56 #[.string (bs seen ++ bs [smallB c]), .string (⟨#[60, 47]⟩ ++ bs el)] w fun e w' => e = .returned (.bool (endsB (seen ++ [smallB c]) (60 :: 47 :: el))) ∧ w' = w) := by
    intro w
    have h := ends_any (seen ++ [smallB c]) (60 :: 47 :: el) w (by simp; omega) (by simp; omega)
    rw [← bs_cat, show bs (60 :: 47 :: el) = ⟨#[60, 47]⟩ ++ bs el from (bs_cat [60, 47] el).symm] at h
    exact h
  obtain ⟨R, hRe⟩ : ∃ R, R = stepW ⟨12, el, at', seen, q, f⟩ c := ⟨_, rfl⟩
  rw [← hRe]
  have HRe := Lib.hid hRe; clear hRe
  rw [show walkV ⟨12, el, at', seen, q, f⟩ = .agg #[.string ⟨#[82, 97, 119]⟩, .string (bs el), .string (bs at'), .string (bs seen), .int .u8 ((q.toNat : Nat) : Int), .bool f] from rfl]
  unfold u8v at *
  go_enter Tryd.func33, Tryd.ntmps33
  have hcv := fun A B => conv_two w A B c
  go_upto_region 3 with (first | (go_at_call 53; refine (H53.out _).mono ?_; rintro e w1 ⟨rfl, rfl⟩) | (go_at_call 54; refine (H54.out _).mono ?_; rintro e w2 ⟨rfl, hb2⟩))
  obtain ⟨hG, hR, hB⟩ := two_blocks _ _ _ hb2
  have c0 := blk_cell hG 0; have c1 := blk_cell hG 1; have c2 := blk_cell hG 2; have c3 := blk_cell hG 3; have c4 := blk_cell hG 4; have c5 := blk_cell hG 5
  have f0 := blk_frozen hG 0; have f1 := blk_frozen hG 1; have f2 := blk_frozen hG 2; have f3 := blk_frozen hG 3; have f4 := blk_frozen hG 4; have f5 := blk_frozen hG 5
  simp only [List.getElem?_cons_zero, List.getElem?_cons_succ] at c0 c1 c2 c3 c4 c5
  have hne : w.heap.size + 1 ≠ w.heap.size := Nat.succ_ne_self _
  have HG := Lib.hid hG; have HR := Lib.hid hR; have HB := Lib.hid hB
  clear hb2 hcv hG hR hB H53 H54
  have ok1 := cat_ok seen [smallB c] (by simp; omega)
  have ok2 : ¬ 9223372036854775807 < (⟨#[60, 47]⟩ : ByteArray).size + (bs el).size := cat_ok [60, 47] el (by simp; omega)
  have hcat := Lib.hid (bs_cat seen [smallB c])
  cases he : endsB (seen ++ [smallB c]) (60 :: 47 :: el) with
  | true =>
    rw [he] at H56
    have hr : R = ⟨4, el, at', (seen ++ [smallB c]), q, f⟩ := by rw [HRe.out]; simp [stepW, startW, textW, b47, b61, l47, l33, he]
    have HRf := Lib.hid hr
    clear hr HRe he
    go_upto_region 85 with (first | (go_at_call 56; refine (H56.out _).mono ?_; rintro e w4 ⟨rfl, hw4⟩; replace hw4 := hw4.symm; subst hw4) | fail)
    have hGW : Blk ((w2.setCell ⟨w.heap.size, 3, none⟩ (.string (bs seen ++ bs [smallB c]))).setCell ⟨w.heap.size, 0, none⟩ (.string ⟨#[69, 110, 100, 78, 97, 109, 101]⟩)) w.heap.size 69 [.string ⟨#[69, 110, 100, 78, 97, 109, 101]⟩, .string (bs el), .string (bs at'), .string (bs seen ++ bs [smallB c]), .int .u8 ((q.toNat : Nat) : Int), .bool f] := (blk_set (blk_set HG.out 3 _) 0 _)
    have hRW : Blk ((w2.setCell ⟨w.heap.size, 3, none⟩ (.string (bs seen ++ bs [smallB c]))).setCell ⟨w.heap.size, 0, none⟩ (.string ⟨#[69, 110, 100, 78, 97, 109, 101]⟩)) (w.heap.size + 1) 69 [.string ⟨#[]⟩, .string ⟨#[]⟩, .string ⟨#[]⟩, .string ⟨#[]⟩, .int .u8 0, .bool false] := (blk_far (blk_far HR.out hne _) hne _)
    have hBW : Below w.heap.size w ((w2.setCell ⟨w.heap.size, 3, none⟩ (.string (bs seen ++ bs [smallB c]))).setCell ⟨w.heap.size, 0, none⟩ (.string ⟨#[69, 110, 100, 78, 97, 109, 101]⟩)) := ((HB.out.setCell (Nat.le_refl _) _).setCell (Nat.le_refl _) _)
    obtain ⟨W, hW⟩ : ∃ W, W = ((w2.setCell ⟨w.heap.size, 3, none⟩ (.string (bs seen ++ bs [smallB c]))).setCell ⟨w.heap.size, 0, none⟩ (.string ⟨#[69, 110, 100, 78, 97, 109, 101]⟩)) := ⟨_, rfl⟩
    rw [← hW] at hGW hRW hBW ⊢
    clear hW c0 c1 c2 c3 c4 c5 f0 f1 f2 f3 f4 f5
    have c0 := blk_cell hGW 0; have c1 := blk_cell hGW 1; have c2 := blk_cell hGW 2; have c3 := blk_cell hGW 3; have c4 := blk_cell hGW 4; have c5 := blk_cell hGW 5
    simp only [List.getElem?_cons_zero, List.getElem?_cons_succ] at c0 c1 c2 c3 c4 c5
    have HRW := Lib.hid hRW; have HBW := Lib.hid hBW
    clear hGW hRW hBW
    go_wp2_with (refine wpList_store_row rfl 69 (.tmp 4) (.tmp 232) rfl (w.heap.size + 1) #[_, _, _, _, _, _] rfl rfl 69 _ HRW.out (by kernel_rfl) rfl (by simp [Value.oneCell']) ?_)
    refine bodyPost_ret (v := .agg #[.string ⟨#[69, 110, 100, 78, 97, 109, 101]⟩, .string (bs el), .string (bs at'), .string (bs seen ++ bs [smallB c]), .int .u8 ((q.toNat : Nat) : Int), .bool f]) (results_c Tryd.results33 _ _ _ ⟨w.heap.size + 1, 0, none⟩ _ rfl (load_walk _ (w.heap.size + 1) _ rfl ⟨_, HRW.out⟩)) rfl ?_
    exact ⟨by rw [HRf.out]; unfold walkV wcells; rw [← bs_cat]; rfl, below_setRow HBW.out (Nat.le_succ _) _⟩
  | false =>
    rw [he] at H56
    have hr : R = ⟨12, el, at', (seen ++ [smallB c]), q, f⟩ := by rw [HRe.out]; simp [stepW, startW, textW, b47, b61, l47, l33, he]
    have HRf := Lib.hid hr
    clear hr HRe he
    go_upto_region 85 with (first | (go_at_call 56; refine (H56.out _).mono ?_; rintro e w4 ⟨rfl, hw4⟩; replace hw4 := hw4.symm; subst hw4) | fail)
    have hGW : Blk (w2.setCell ⟨w.heap.size, 3, none⟩ (.string (bs seen ++ bs [smallB c]))) w.heap.size 69 [.string ⟨#[82, 97, 119]⟩, .string (bs el), .string (bs at'), .string (bs seen ++ bs [smallB c]), .int .u8 ((q.toNat : Nat) : Int), .bool f] := (blk_set HG.out 3 _)
    have hRW : Blk (w2.setCell ⟨w.heap.size, 3, none⟩ (.string (bs seen ++ bs [smallB c]))) (w.heap.size + 1) 69 [.string ⟨#[]⟩, .string ⟨#[]⟩, .string ⟨#[]⟩, .string ⟨#[]⟩, .int .u8 0, .bool false] := (blk_far HR.out hne _)
    have hBW : Below w.heap.size w (w2.setCell ⟨w.heap.size, 3, none⟩ (.string (bs seen ++ bs [smallB c]))) := (HB.out.setCell (Nat.le_refl _) _)
    obtain ⟨W, hW⟩ : ∃ W, W = (w2.setCell ⟨w.heap.size, 3, none⟩ (.string (bs seen ++ bs [smallB c]))) := ⟨_, rfl⟩
    rw [← hW] at hGW hRW hBW ⊢
    clear hW c0 c1 c2 c3 c4 c5 f0 f1 f2 f3 f4 f5
    have c0 := blk_cell hGW 0; have c1 := blk_cell hGW 1; have c2 := blk_cell hGW 2; have c3 := blk_cell hGW 3; have c4 := blk_cell hGW 4; have c5 := blk_cell hGW 5
    simp only [List.getElem?_cons_zero, List.getElem?_cons_succ] at c0 c1 c2 c3 c4 c5
    have HRW := Lib.hid hRW; have HBW := Lib.hid hBW
    clear hGW hRW hBW
    go_wp2_with (refine wpList_store_row rfl 69 (.tmp 4) (.tmp 232) rfl (w.heap.size + 1) #[_, _, _, _, _, _] rfl rfl 69 _ HRW.out (by kernel_rfl) rfl (by simp [Value.oneCell']) ?_)
    refine bodyPost_ret (v := .agg #[.string ⟨#[82, 97, 119]⟩, .string (bs el), .string (bs at'), .string (bs seen ++ bs [smallB c]), .int .u8 ((q.toNat : Nat) : Int), .bool f]) (results_c Tryd.results33 _ _ _ ⟨w.heap.size + 1, 0, none⟩ _ rfl (load_walk _ (w.heap.size + 1) _ rfl ⟨_, HRW.out⟩)) rfl ?_
    exact ⟨by rw [HRf.out]; unfold walkV wcells; rw [← bs_cat]; rfl, below_setRow HBW.out (Nat.le_succ _) _⟩
set_option maxHeartbeats 4000000 in
set_option maxRecDepth 100000 in
theorem stp_2 (el at' seen : Bs) (q c : UInt8) (f : Bool) (hsz : el.length + at'.length + seen.length ≤ 900000) (w : World) :
    Calls Tryd.prog 33 #[walkV ⟨2, el, at', seen, q, f⟩, u8v c] w fun e w' => e = .returned (walkV (stepW ⟨2, el, at', seen, q, f⟩ c)) ∧ Below w.heap.size w w' := by
  have H53 := Lib.hid (blank_one c)
  have H54 := Lib.hid (smallR_one c)
  have H55 := Lib.hid (letterR_any c)
  obtain ⟨R, hRe⟩ : ∃ R, R = stepW ⟨2, el, at', seen, q, f⟩ c := ⟨_, rfl⟩
  rw [← hRe]
  have HRe := Lib.hid hRe; clear hRe
  rw [show walkV ⟨2, el, at', seen, q, f⟩ = .agg #[.string ⟨#[67, 108, 111, 115, 101]⟩, .string (bs el), .string (bs at'), .string (bs seen), .int .u8 ((q.toNat : Nat) : Int), .bool f] from rfl]
  unfold u8v at *
  go_enter Tryd.func33, Tryd.ntmps33
  have hcv := fun A B => conv_two w A B c
  go_upto_region 3 with (first | (go_at_call 53; refine (H53.out _).mono ?_; rintro e w1 ⟨rfl, rfl⟩) | (go_at_call 54; refine (H54.out _).mono ?_; rintro e w2 ⟨rfl, hb2⟩))
  obtain ⟨hG, hR, hB⟩ := two_blocks _ _ _ hb2
  have c0 := blk_cell hG 0; have c1 := blk_cell hG 1; have c2 := blk_cell hG 2; have c3 := blk_cell hG 3; have c4 := blk_cell hG 4; have c5 := blk_cell hG 5
  have f0 := blk_frozen hG 0; have f1 := blk_frozen hG 1; have f2 := blk_frozen hG 2; have f3 := blk_frozen hG 3; have f4 := blk_frozen hG 4; have f5 := blk_frozen hG 5
  simp only [List.getElem?_cons_zero, List.getElem?_cons_succ] at c0 c1 c2 c3 c4 c5
  have hne : w.heap.size + 1 ≠ w.heap.size := Nat.succ_ne_self _
  have HG := Lib.hid hG; have HR := Lib.hid hR; have HB := Lib.hid hB
  clear hb2 hcv hG hR hB H53 H54
  cases hl : letterB c with
  | true =>
    have hr : R = ⟨4, el, at', seen, q, f⟩ := by rw [HRe.out]; simp [stepW, startW, textW, b47, b61, l47, l33, hl]
    have HRf := Lib.hid hr
    clear hr HRe
    go_upto_region 31 with (first | (go_at_call 55; refine (H55.out _).mono ?_; rintro e w4 ⟨rfl, hw4⟩; replace hw4 := hw4.symm; subst hw4) | fail)
    have hGW : Blk (w2.setCell ⟨w.heap.size, 0, none⟩ (.string ⟨#[69, 110, 100, 78, 97, 109, 101]⟩)) w.heap.size 69 [.string ⟨#[69, 110, 100, 78, 97, 109, 101]⟩, .string (bs el), .string (bs at'), .string (bs seen), .int .u8 ((q.toNat : Nat) : Int), .bool f] := (blk_set HG.out 0 _)
    have hRW : Blk (w2.setCell ⟨w.heap.size, 0, none⟩ (.string ⟨#[69, 110, 100, 78, 97, 109, 101]⟩)) (w.heap.size + 1) 69 [.string ⟨#[]⟩, .string ⟨#[]⟩, .string ⟨#[]⟩, .string ⟨#[]⟩, .int .u8 0, .bool false] := (blk_far HR.out hne _)
    have hBW : Below w.heap.size w (w2.setCell ⟨w.heap.size, 0, none⟩ (.string ⟨#[69, 110, 100, 78, 97, 109, 101]⟩)) := (HB.out.setCell (Nat.le_refl _) _)
    obtain ⟨W, hW⟩ : ∃ W, W = (w2.setCell ⟨w.heap.size, 0, none⟩ (.string ⟨#[69, 110, 100, 78, 97, 109, 101]⟩)) := ⟨_, rfl⟩
    rw [← hW] at hGW hRW hBW ⊢
    clear hW c0 c1 c2 c3 c4 c5 f0 f1 f2 f3 f4 f5
    have c0 := blk_cell hGW 0; have c1 := blk_cell hGW 1; have c2 := blk_cell hGW 2; have c3 := blk_cell hGW 3; have c4 := blk_cell hGW 4; have c5 := blk_cell hGW 5
    simp only [List.getElem?_cons_zero, List.getElem?_cons_succ] at c0 c1 c2 c3 c4 c5
    have HRW := Lib.hid hRW; have HBW := Lib.hid hBW
    clear hGW hRW hBW
    go_wp2_with (refine wpList_store_row rfl 69 (.tmp 4) (.tmp 93) rfl (w.heap.size + 1) #[_, _, _, _, _, _] rfl rfl 69 _ HRW.out (by kernel_rfl) rfl (by simp [Value.oneCell']) ?_)
    refine bodyPost_ret (v := .agg #[.string ⟨#[69, 110, 100, 78, 97, 109, 101]⟩, .string (bs el), .string (bs at'), .string (bs seen), .int .u8 ((q.toNat : Nat) : Int), .bool f]) (results_c Tryd.results33 _ _ _ ⟨w.heap.size + 1, 0, none⟩ _ rfl (load_walk _ (w.heap.size + 1) _ rfl ⟨_, HRW.out⟩)) rfl ?_
    exact ⟨by rw [HRf.out]; rfl, below_setRow HBW.out (Nat.le_succ _) _⟩
  | false =>
    have hr : R = stepW ⟨11, el, at', [], q, f⟩ c := by rw [HRe.out]; simp [stepW, startW, hl]
    have HS : Hid (∀ w, Calls Tryd.prog 33 #[.agg #[.string ⟨#[66, 97, 110, 103]⟩, .string (bs el), .string (bs at'), .string ⟨#[]⟩, .int .u8 ((q.toNat : Nat) : Int), .bool f], .int .u8 ((c.toNat : Nat) : Int)] w fun e w' => e = .returned (walkV R) ∧ Below w.heap.size w w') := by
      rw [hr]; exact stp_11 el at' [] q c f (by simp)
    obtain ⟨X, hX⟩ : ∃ X : Array Value, X = (wcells R).toArray := ⟨_, rfl⟩
    have hX6 : X.size = 6 := by rw [hX]; rfl
    have hX1 : X.all (·.oneCell') = true := by rw [hX]; simp [wcells, u8v, Value.oneCell']
    have HS : Hid (∀ w, Calls Tryd.prog 33 #[.agg #[.string ⟨#[66, 97, 110, 103]⟩, .string (bs el), .string (bs at'), .string ⟨#[]⟩, .int .u8 ((q.toNat : Nat) : Int), .bool f], .int .u8 ((c.toNat : Nat) : Int)] w fun e w' => e = .returned (.agg X) ∧ Below w.heap.size w w') := by rw [hX]; exact HS
    have HX := Lib.hid hX
    clear hr HRe hX
    go_upto_region 34 with (go_at_call 55; refine (H55.out _).mono ?_; rintro e w4 ⟨rfl, hw4⟩; replace hw4 := hw4.symm; subst hw4)
    have hGW : Blk ((w2.setCell ⟨w.heap.size, 0, none⟩ (.string ⟨#[66, 97, 110, 103]⟩)).setCell ⟨w.heap.size, 3, none⟩ (.string ⟨#[]⟩)) w.heap.size 69 [.string ⟨#[66, 97, 110, 103]⟩, .string (bs el), .string (bs at'), .string ⟨#[]⟩, .int .u8 ((q.toNat : Nat) : Int), .bool f] := (blk_set (blk_set HG.out 0 _) 3 _)
    have hRW : Blk ((w2.setCell ⟨w.heap.size, 0, none⟩ (.string ⟨#[66, 97, 110, 103]⟩)).setCell ⟨w.heap.size, 3, none⟩ (.string ⟨#[]⟩)) (w.heap.size + 1) 69 [.string ⟨#[]⟩, .string ⟨#[]⟩, .string ⟨#[]⟩, .string ⟨#[]⟩, .int .u8 0, .bool false] := (blk_far (blk_far HR.out hne _) hne _)
    have hBW : Below w.heap.size w ((w2.setCell ⟨w.heap.size, 0, none⟩ (.string ⟨#[66, 97, 110, 103]⟩)).setCell ⟨w.heap.size, 3, none⟩ (.string ⟨#[]⟩)) := ((HB.out.setCell (Nat.le_refl _) _).setCell (Nat.le_refl _) _)
    obtain ⟨W, hW⟩ : ∃ W, W = ((w2.setCell ⟨w.heap.size, 0, none⟩ (.string ⟨#[66, 97, 110, 103]⟩)).setCell ⟨w.heap.size, 3, none⟩ (.string ⟨#[]⟩)) := ⟨_, rfl⟩
    rw [← hW] at hGW hRW hBW ⊢
    clear hW c0 c1 c2 c3 c4 c5 f0 f1 f2 f3 f4 f5
    have c0 := blk_cell hGW 0; have c1 := blk_cell hGW 1; have c2 := blk_cell hGW 2; have c3 := blk_cell hGW 3; have c4 := blk_cell hGW 4; have c5 := blk_cell hGW 5
    simp only [List.getElem?_cons_zero, List.getElem?_cons_succ] at c0 c1 c2 c3 c4 c5
    have HRW := Lib.hid hRW; have HBW := Lib.hid hBW
    have hsW := hBW.size; have hlt := blk_lt hRW
    clear hGW hRW hBW
    go_wp2_with (first | (go_at_call 33; refine (HS.out _).mono ?_; rintro e w5 ⟨rfl, hb5⟩; have HB5 := Lib.hid (HBW.out.trans (hb5.mono hsW)); have HR5 := Lib.hid (blk_below HRW.out hb5 hlt); clear hb5) | (refine wpList_store_row rfl 69 (.tmp 4) (.tmp 98) rfl (w.heap.size + 1) X rfl rfl 69 _ HR5.out (by rw [hX6]; kernel_rfl) (by rw [hX6]; rfl) hX1 ?_))
    refine bodyPost_ret (v := .agg X) (results_c Tryd.results33 _ _ _ ⟨w.heap.size + 1, 0, none⟩ _ rfl (load_walk _ (w.heap.size + 1) _ hX6 ⟨_, HR5.out⟩)) rfl ?_
    exact ⟨by rw [HX.out]; rfl, below_setRow HB5.out (Nat.le_succ _) _⟩
end Go.Proofs.YthilkpjdfjjikaaDoor
