/-
  The document's machine's step: a state at a time.
-/
import Derived.Test.YthilkpjdfjjikaaDoorPrwM
import Derived.Test.YthilkpjdfjjikaaDoorMsp
set_option linter.unusedVariables false
set_option linter.unusedSimpArgs false
namespace Go.Proofs.YthilkpjdfjjikaaDoor
open Go.RowKit

theorem ne_beq {c d : UInt8} (h : ¬ c = d) : (((c.toNat : Nat) : Int) == ((d.toNat : Nat) : Int)) = false := by
  rw [beq_eq_false_iff_ne]; intro e; exact h (by apply UInt8.toNat_inj.1; omega)
theorem str_to (l : Bs) (m : Nat) (h : m ≤ l.length) (w : World) : (Instr.slice 9 (.string (bs l)) none (some (.int .i64 (m : Int))) none).run Tryd.prog w = .ok (.string (bs (l.take m))) w := by
  have hs : (bs l).size = l.length := bs_size l
  rw [run_slice_string_to_if w 9 _ .i64 _ Tryd.underlying9]
  rw [if_pos ⟨by omega, by rw [hs]; omega⟩]
  congr 2
  apply ByteArray.ext
  rw [ByteArray.data_extract]
  apply Array.ext'
  simp [bs, Array.toList_extract, List.extract_eq_take_drop]
set_option maxHeartbeats 4000000 in
set_option maxRecDepth 100000 in
theorem stp_0 (el at' seen : Bs) (q c : UInt8) (f : Bool) (w : World) :
    Calls Tryd.prog 33 #[walkV ⟨0, el, at', seen, q, f⟩, u8v c] w fun e w' => e = .returned (walkV (stepW ⟨0, el, at', seen, q, f⟩ c)) ∧ Below w.heap.size w w' := by
  have H53 := Lib.hid (blank_one c)
  have H54 := Lib.hid (smallR_one c)
  obtain ⟨R, hRe⟩ : ∃ R, R = stepW ⟨0, el, at', seen, q, f⟩ c := ⟨_, rfl⟩
  rw [← hRe]
  have HRe := Lib.hid hRe; clear hRe
  rw [show walkV ⟨0, el, at', seen, q, f⟩ = .agg #[.string ⟨#[84, 101, 120, 116]⟩, .string (bs el), .string (bs at'), .string (bs seen), .int .u8 ((q.toNat : Nat) : Int), .bool f] from rfl]
  unfold u8v at *
  go_enter Tryd.func33, Tryd.ntmps33
  have hcv := fun A B => conv_two w A B c
  go_upto_region 3 with (first | (go_at_call 53; refine (H53.out _).mono ?_; rintro e w1 ⟨rfl, rfl⟩) | (go_at_call 54; refine (H54.out _).mono ?_; rintro e w2 ⟨rfl, hb2⟩))
  obtain ⟨hG, hR, hB⟩ := two_blocks _ _ _ hb2
  have c0 := blk_cell hG 0; have c1 := blk_cell hG 1; have c2 := blk_cell hG 2; have c3 := blk_cell hG 3; have c4 := blk_cell hG 4; have c5 := blk_cell hG 5
  have f0 := blk_frozen hG 0; have f1 := blk_frozen hG 1; have f2 := blk_frozen hG 2; have f3 := blk_frozen hG 3; have f4 := blk_frozen hG 4; have f5 := blk_frozen hG 5
  simp only [List.getElem?_cons_zero, List.getElem?_cons_succ] at c0 c1 c2 c3 c4 c5
  have hne : w.heap.size + 1 ≠ w.heap.size := Nat.succ_ne_self _
  have HG := Lib.hid hG; have HR := Lib.hid hR; have HB := Lib.hid hB
  clear hb2 hcv hG hR hB H53 H54
  by_cases h60 : c = 60
  · have t60 : (((c.toNat : Nat) : Int) == 60) = true := by rw [h60]; rfl
    have hr : R = ⟨1, el, at', seen, q, f⟩ := by rw [HRe.out]; simp [stepW, startW, textW, b47, b61, l47, l33, h60]
    have HRf := Lib.hid hr
    clear hr HRe h60
    go_upto_region 85 with (first | fail)
    have hGW : Blk (w2.setCell ⟨w.heap.size, 0, none⟩ (.string ⟨#[79, 112, 101, 110]⟩)) w.heap.size 69 [.string ⟨#[79, 112, 101, 110]⟩, .string (bs el), .string (bs at'), .string (bs seen), .int .u8 ((q.toNat : Nat) : Int), .bool f] := (blk_set HG.out 0 _)
    have hRW : Blk (w2.setCell ⟨w.heap.size, 0, none⟩ (.string ⟨#[79, 112, 101, 110]⟩)) (w.heap.size + 1) 69 [.string ⟨#[]⟩, .string ⟨#[]⟩, .string ⟨#[]⟩, .string ⟨#[]⟩, .int .u8 0, .bool false] := (blk_far HR.out hne _)
    have hBW : Below w.heap.size w (w2.setCell ⟨w.heap.size, 0, none⟩ (.string ⟨#[79, 112, 101, 110]⟩)) := (HB.out.setCell (Nat.le_refl _) _)
    obtain ⟨W, hW⟩ : ∃ W, W = (w2.setCell ⟨w.heap.size, 0, none⟩ (.string ⟨#[79, 112, 101, 110]⟩)) := ⟨_, rfl⟩
    rw [← hW] at hGW hRW hBW ⊢
    clear hW c0 c1 c2 c3 c4 c5 f0 f1 f2 f3 f4 f5
    have c0 := blk_cell hGW 0; have c1 := blk_cell hGW 1; have c2 := blk_cell hGW 2; have c3 := blk_cell hGW 3; have c4 := blk_cell hGW 4; have c5 := blk_cell hGW 5
    simp only [List.getElem?_cons_zero, List.getElem?_cons_succ] at c0 c1 c2 c3 c4 c5
    have HRW := Lib.hid hRW; have HBW := Lib.hid hBW
    clear hGW hRW hBW
    go_wp2_with (refine wpList_store_row rfl 69 (.tmp 4) (.tmp 232) rfl (w.heap.size + 1) #[_, _, _, _, _, _] rfl rfl 69 _ HRW.out (by kernel_rfl) rfl (by simp [Value.oneCell']) ?_)
    refine bodyPost_ret (v := .agg #[.string ⟨#[79, 112, 101, 110]⟩, .string (bs el), .string (bs at'), .string (bs seen), .int .u8 ((q.toNat : Nat) : Int), .bool f]) (results_c Tryd.results33 _ _ _ ⟨w.heap.size + 1, 0, none⟩ _ rfl (load_walk _ (w.heap.size + 1) _ rfl ⟨_, HRW.out⟩)) rfl ?_
    exact ⟨by rw [HRf.out]; rfl, below_setRow HBW.out (Nat.le_succ _) _⟩
  · have t60 : (((c.toNat : Nat) : Int) == 60) = false := ne_beq (d := 60) h60
    have hr : R = ⟨0, el, at', seen, q, f⟩ := by rw [HRe.out]; simp [stepW, startW, textW, b47, b61, l47, l33, h60]
    have HRf := Lib.hid hr
    clear hr HRe h60
    go_upto_region 85 with (first | fail)
    have HRW := HR; have HBW := HB
    go_wp2_with (refine wpList_store_row rfl 69 (.tmp 4) (.tmp 232) rfl (w.heap.size + 1) #[_, _, _, _, _, _] rfl rfl 69 _ HRW.out (by kernel_rfl) rfl (by simp [Value.oneCell']) ?_)
    refine bodyPost_ret (v := .agg #[.string ⟨#[84, 101, 120, 116]⟩, .string (bs el), .string (bs at'), .string (bs seen), .int .u8 ((q.toNat : Nat) : Int), .bool f]) (results_c Tryd.results33 _ _ _ ⟨w.heap.size + 1, 0, none⟩ _ rfl (load_walk _ (w.heap.size + 1) _ rfl ⟨_, HRW.out⟩)) rfl ?_
    exact ⟨by rw [HRf.out]; rfl, below_setRow HBW.out (Nat.le_succ _) _⟩
set_option maxHeartbeats 4000000 in
set_option maxRecDepth 100000 in
theorem stp_4 (el at' seen : Bs) (q c : UInt8) (f : Bool) (w : World) :
    Calls Tryd.prog 33 #[walkV ⟨4, el, at', seen, q, f⟩, u8v c] w fun e w' => e = .returned (walkV (stepW ⟨4, el, at', seen, q, f⟩ c)) ∧ Below w.heap.size w w' := by
  have H53 := Lib.hid (blank_one c)
  have H54 := Lib.hid (smallR_one c)
  obtain ⟨R, hRe⟩ : ∃ R, R = stepW ⟨4, el, at', seen, q, f⟩ c := ⟨_, rfl⟩
  rw [← hRe]
  have HRe := Lib.hid hRe; clear hRe
  rw [show walkV ⟨4, el, at', seen, q, f⟩ = .agg #[.string ⟨#[69, 110, 100, 78, 97, 109, 101]⟩, .string (bs el), .string (bs at'), .string (bs seen), .int .u8 ((q.toNat : Nat) : Int), .bool f] from rfl]
  unfold u8v at *
  go_enter Tryd.func33, Tryd.ntmps33
  have hcv := fun A B => conv_two w A B c
  go_upto_region 3 with (first | (go_at_call 53; refine (H53.out _).mono ?_; rintro e w1 ⟨rfl, rfl⟩) | (go_at_call 54; refine (H54.out _).mono ?_; rintro e w2 ⟨rfl, hb2⟩))
  obtain ⟨hG, hR, hB⟩ := two_blocks _ _ _ hb2
  have c0 := blk_cell hG 0; have c1 := blk_cell hG 1; have c2 := blk_cell hG 2; have c3 := blk_cell hG 3; have c4 := blk_cell hG 4; have c5 := blk_cell hG 5
  have f0 := blk_frozen hG 0; have f1 := blk_frozen hG 1; have f2 := blk_frozen hG 2; have f3 := blk_frozen hG 3; have f4 := blk_frozen hG 4; have f5 := blk_frozen hG 5
  simp only [List.getElem?_cons_zero, List.getElem?_cons_succ] at c0 c1 c2 c3 c4 c5
  have hne : w.heap.size + 1 ≠ w.heap.size := Nat.succ_ne_self _
  have HG := Lib.hid hG; have HR := Lib.hid hR; have HB := Lib.hid hB
  clear hb2 hcv hG hR hB H53 H54
  by_cases h62 : c = 62
  · have t62 : (((c.toNat : Nat) : Int) == 62) = true := by rw [h62]; rfl
    have hr : R = ⟨0, el, at', seen, q, f⟩ := by rw [HRe.out]; simp [stepW, startW, textW, b47, b61, l47, l33, h62]
    have HRf := Lib.hid hr
    clear hr HRe h62
    go_upto_region 85 with (first | fail)
    have hGW : Blk (w2.setCell ⟨w.heap.size, 0, none⟩ (.string ⟨#[84, 101, 120, 116]⟩)) w.heap.size 69 [.string ⟨#[84, 101, 120, 116]⟩, .string (bs el), .string (bs at'), .string (bs seen), .int .u8 ((q.toNat : Nat) : Int), .bool f] := (blk_set HG.out 0 _)
    have hRW : Blk (w2.setCell ⟨w.heap.size, 0, none⟩ (.string ⟨#[84, 101, 120, 116]⟩)) (w.heap.size + 1) 69 [.string ⟨#[]⟩, .string ⟨#[]⟩, .string ⟨#[]⟩, .string ⟨#[]⟩, .int .u8 0, .bool false] := (blk_far HR.out hne _)
    have hBW : Below w.heap.size w (w2.setCell ⟨w.heap.size, 0, none⟩ (.string ⟨#[84, 101, 120, 116]⟩)) := (HB.out.setCell (Nat.le_refl _) _)
    obtain ⟨W, hW⟩ : ∃ W, W = (w2.setCell ⟨w.heap.size, 0, none⟩ (.string ⟨#[84, 101, 120, 116]⟩)) := ⟨_, rfl⟩
    rw [← hW] at hGW hRW hBW ⊢
    clear hW c0 c1 c2 c3 c4 c5 f0 f1 f2 f3 f4 f5
    have c0 := blk_cell hGW 0; have c1 := blk_cell hGW 1; have c2 := blk_cell hGW 2; have c3 := blk_cell hGW 3; have c4 := blk_cell hGW 4; have c5 := blk_cell hGW 5
    simp only [List.getElem?_cons_zero, List.getElem?_cons_succ] at c0 c1 c2 c3 c4 c5
    have HRW := Lib.hid hRW; have HBW := Lib.hid hBW
    clear hGW hRW hBW
    go_wp2_with (refine wpList_store_row rfl 69 (.tmp 4) (.tmp 232) rfl (w.heap.size + 1) #[_, _, _, _, _, _] rfl rfl 69 _ HRW.out (by kernel_rfl) rfl (by simp [Value.oneCell']) ?_)
    refine bodyPost_ret (v := .agg #[.string ⟨#[84, 101, 120, 116]⟩, .string (bs el), .string (bs at'), .string (bs seen), .int .u8 ((q.toNat : Nat) : Int), .bool f]) (results_c Tryd.results33 _ _ _ ⟨w.heap.size + 1, 0, none⟩ _ rfl (load_walk _ (w.heap.size + 1) _ rfl ⟨_, HRW.out⟩)) rfl ?_
    exact ⟨by rw [HRf.out]; rfl, below_setRow HBW.out (Nat.le_succ _) _⟩
  · have t62 : (((c.toNat : Nat) : Int) == 62) = false := ne_beq (d := 62) h62
    have hr : R = ⟨4, el, at', seen, q, f⟩ := by rw [HRe.out]; simp [stepW, startW, textW, b47, b61, l47, l33, h62]
    have HRf := Lib.hid hr
    clear hr HRe h62
    go_upto_region 85 with (first | fail)
    have HRW := HR; have HBW := HB
    go_wp2_with (refine wpList_store_row rfl 69 (.tmp 4) (.tmp 232) rfl (w.heap.size + 1) #[_, _, _, _, _, _] rfl rfl 69 _ HRW.out (by kernel_rfl) rfl (by simp [Value.oneCell']) ?_)
    refine bodyPost_ret (v := .agg #[.string ⟨#[69, 110, 100, 78, 97, 109, 101]⟩, .string (bs el), .string (bs at'), .string (bs seen), .int .u8 ((q.toNat : Nat) : Int), .bool f]) (results_c Tryd.results33 _ _ _ ⟨w.heap.size + 1, 0, none⟩ _ rfl (load_walk _ (w.heap.size + 1) _ rfl ⟨_, HRW.out⟩)) rfl ?_
    exact ⟨by rw [HRf.out]; rfl, below_setRow HBW.out (Nat.le_succ _) _⟩
set_option maxHeartbeats 4000000 in
set_option maxRecDepth 100000 in
theorem stp_9 (el at' seen : Bs) (q c : UInt8) (f : Bool) (w : World) :
    Calls Tryd.prog 33 #[walkV ⟨9, el, at', seen, q, f⟩, u8v c] w fun e w' => e = .returned (walkV (stepW ⟨9, el, at', seen, q, f⟩ c)) ∧ Below w.heap.size w w' := by
  have H53 := Lib.hid (blank_one c)
  have H54 := Lib.hid (smallR_one c)
  obtain ⟨R, hRe⟩ : ∃ R, R = stepW ⟨9, el, at', seen, q, f⟩ c := ⟨_, rfl⟩
  rw [← hRe]
  have HRe := Lib.hid hRe; clear hRe
  rw [show walkV ⟨9, el, at', seen, q, f⟩ = .agg #[.string ⟨#[86, 97, 108, 117, 101]⟩, .string (bs el), .string (bs at'), .string (bs seen), .int .u8 ((q.toNat : Nat) : Int), .bool f] from rfl]
  unfold u8v at *
  go_enter Tryd.func33, Tryd.ntmps33
  have hcv := fun A B => conv_two w A B c
  go_upto_region 3 with (first | (go_at_call 53; refine (H53.out _).mono ?_; rintro e w1 ⟨rfl, rfl⟩) | (go_at_call 54; refine (H54.out _).mono ?_; rintro e w2 ⟨rfl, hb2⟩))
  obtain ⟨hG, hR, hB⟩ := two_blocks _ _ _ hb2
  have c0 := blk_cell hG 0; have c1 := blk_cell hG 1; have c2 := blk_cell hG 2; have c3 := blk_cell hG 3; have c4 := blk_cell hG 4; have c5 := blk_cell hG 5
  have f0 := blk_frozen hG 0; have f1 := blk_frozen hG 1; have f2 := blk_frozen hG 2; have f3 := blk_frozen hG 3; have f4 := blk_frozen hG 4; have f5 := blk_frozen hG 5
  simp only [List.getElem?_cons_zero, List.getElem?_cons_succ] at c0 c1 c2 c3 c4 c5
  have hne : w.heap.size + 1 ≠ w.heap.size := Nat.succ_ne_self _
  have HG := Lib.hid hG; have HR := Lib.hid hR; have HB := Lib.hid hB
  clear hb2 hcv hG hR hB H53 H54
  by_cases hq : c = q
  · have tq : (((c.toNat : Nat) : Int) == ((q.toNat : Nat) : Int)) = true := by rw [hq]; exact beq_self_eq_true _
    have hr : R = ⟨5, el, at', seen, q, true⟩ := by rw [HRe.out]; simp [stepW, startW, textW, b47, b61, l47, l33, hq]
    have HRf := Lib.hid hr
    clear hr HRe hq
    go_upto_region 85 with (first | fail)
    have hGW : Blk ((w2.setCell ⟨w.heap.size, 5, none⟩ (.bool true)).setCell ⟨w.heap.size, 0, none⟩ (.string ⟨#[84, 97, 103]⟩)) w.heap.size 69 [.string ⟨#[84, 97, 103]⟩, .string (bs el), .string (bs at'), .string (bs seen), .int .u8 ((q.toNat : Nat) : Int), .bool true] := (blk_set (blk_set HG.out 5 _) 0 _)
    have hRW : Blk ((w2.setCell ⟨w.heap.size, 5, none⟩ (.bool true)).setCell ⟨w.heap.size, 0, none⟩ (.string ⟨#[84, 97, 103]⟩)) (w.heap.size + 1) 69 [.string ⟨#[]⟩, .string ⟨#[]⟩, .string ⟨#[]⟩, .string ⟨#[]⟩, .int .u8 0, .bool false] := (blk_far (blk_far HR.out hne _) hne _)
    have hBW : Below w.heap.size w ((w2.setCell ⟨w.heap.size, 5, none⟩ (.bool true)).setCell ⟨w.heap.size, 0, none⟩ (.string ⟨#[84, 97, 103]⟩)) := ((HB.out.setCell (Nat.le_refl _) _).setCell (Nat.le_refl _) _)
    obtain ⟨W, hW⟩ : ∃ W, W = ((w2.setCell ⟨w.heap.size, 5, none⟩ (.bool true)).setCell ⟨w.heap.size, 0, none⟩ (.string ⟨#[84, 97, 103]⟩)) := ⟨_, rfl⟩
    rw [← hW] at hGW hRW hBW ⊢
    clear hW c0 c1 c2 c3 c4 c5 f0 f1 f2 f3 f4 f5
    have c0 := blk_cell hGW 0; have c1 := blk_cell hGW 1; have c2 := blk_cell hGW 2; have c3 := blk_cell hGW 3; have c4 := blk_cell hGW 4; have c5 := blk_cell hGW 5
    simp only [List.getElem?_cons_zero, List.getElem?_cons_succ] at c0 c1 c2 c3 c4 c5
    have HRW := Lib.hid hRW; have HBW := Lib.hid hBW
    clear hGW hRW hBW
    go_wp2_with (refine wpList_store_row rfl 69 (.tmp 4) (.tmp 232) rfl (w.heap.size + 1) #[_, _, _, _, _, _] rfl rfl 69 _ HRW.out (by kernel_rfl) rfl (by simp [Value.oneCell']) ?_)
    refine bodyPost_ret (v := .agg #[.string ⟨#[84, 97, 103]⟩, .string (bs el), .string (bs at'), .string (bs seen), .int .u8 ((q.toNat : Nat) : Int), .bool true]) (results_c Tryd.results33 _ _ _ ⟨w.heap.size + 1, 0, none⟩ _ rfl (load_walk _ (w.heap.size + 1) _ rfl ⟨_, HRW.out⟩)) rfl ?_
    exact ⟨by rw [HRf.out]; rfl, below_setRow HBW.out (Nat.le_succ _) _⟩
  · have tq : (((c.toNat : Nat) : Int) == ((q.toNat : Nat) : Int)) = false := ne_beq hq
    have hr : R = ⟨9, el, at', seen, q, true⟩ := by rw [HRe.out]; simp [stepW, startW, textW, b47, b61, l47, l33, hq]
    have HRf := Lib.hid hr
    clear hr HRe hq
    go_upto_region 85 with (first | fail)
    have hGW : Blk (w2.setCell ⟨w.heap.size, 5, none⟩ (.bool true)) w.heap.size 69 [.string ⟨#[86, 97, 108, 117, 101]⟩, .string (bs el), .string (bs at'), .string (bs seen), .int .u8 ((q.toNat : Nat) : Int), .bool true] := (blk_set HG.out 5 _)
    have hRW : Blk (w2.setCell ⟨w.heap.size, 5, none⟩ (.bool true)) (w.heap.size + 1) 69 [.string ⟨#[]⟩, .string ⟨#[]⟩, .string ⟨#[]⟩, .string ⟨#[]⟩, .int .u8 0, .bool false] := (blk_far HR.out hne _)
    have hBW : Below w.heap.size w (w2.setCell ⟨w.heap.size, 5, none⟩ (.bool true)) := (HB.out.setCell (Nat.le_refl _) _)
    obtain ⟨W, hW⟩ : ∃ W, W = (w2.setCell ⟨w.heap.size, 5, none⟩ (.bool true)) := ⟨_, rfl⟩
    rw [← hW] at hGW hRW hBW ⊢
    clear hW c0 c1 c2 c3 c4 c5 f0 f1 f2 f3 f4 f5
    have c0 := blk_cell hGW 0; have c1 := blk_cell hGW 1; have c2 := blk_cell hGW 2; have c3 := blk_cell hGW 3; have c4 := blk_cell hGW 4; have c5 := blk_cell hGW 5
    simp only [List.getElem?_cons_zero, List.getElem?_cons_succ] at c0 c1 c2 c3 c4 c5
    have HRW := Lib.hid hRW; have HBW := Lib.hid hBW
    clear hGW hRW hBW
    go_wp2_with (refine wpList_store_row rfl 69 (.tmp 4) (.tmp 232) rfl (w.heap.size + 1) #[_, _, _, _, _, _] rfl rfl 69 _ HRW.out (by kernel_rfl) rfl (by simp [Value.oneCell']) ?_)
    refine bodyPost_ret (v := .agg #[.string ⟨#[86, 97, 108, 117, 101]⟩, .string (bs el), .string (bs at'), .string (bs seen), .int .u8 ((q.toNat : Nat) : Int), .bool true]) (results_c Tryd.results33 _ _ _ ⟨w.heap.size + 1, 0, none⟩ _ rfl (load_walk _ (w.heap.size + 1) _ rfl ⟨_, HRW.out⟩)) rfl ?_
    exact ⟨by rw [HRf.out]; rfl, below_setRow HBW.out (Nat.le_succ _) _⟩
set_option maxHeartbeats 4000000 in
set_option maxRecDepth 100000 in
theorem stp_5 (el at' seen : Bs) (q c : UInt8) (f : Bool) (w : World) :
    Calls Tryd.prog 33 #[walkV ⟨5, el, at', seen, q, f⟩, u8v c] w fun e w' => e = .returned (walkV (stepW ⟨5, el, at', seen, q, f⟩ c)) ∧ Below w.heap.size w w' := by
  have H53 := Lib.hid (blank_one c)
  have H54 := Lib.hid (smallR_one c)
  obtain ⟨R, hRe⟩ : ∃ R, R = stepW ⟨5, el, at', seen, q, f⟩ c := ⟨_, rfl⟩
  rw [← hRe]
  have HRe := Lib.hid hRe; clear hRe
  rw [show walkV ⟨5, el, at', seen, q, f⟩ = .agg #[.string ⟨#[84, 97, 103]⟩, .string (bs el), .string (bs at'), .string (bs seen), .int .u8 ((q.toNat : Nat) : Int), .bool f] from rfl]
  unfold u8v at *
  go_enter Tryd.func33, Tryd.ntmps33
  have hcv := fun A B => conv_two w A B c
  go_upto_region 3 with (first | (go_at_call 53; refine (H53.out _).mono ?_; rintro e w1 ⟨rfl, rfl⟩) | (go_at_call 54; refine (H54.out _).mono ?_; rintro e w2 ⟨rfl, hb2⟩))
  obtain ⟨hG, hR, hB⟩ := two_blocks _ _ _ hb2
  have c0 := blk_cell hG 0; have c1 := blk_cell hG 1; have c2 := blk_cell hG 2; have c3 := blk_cell hG 3; have c4 := blk_cell hG 4; have c5 := blk_cell hG 5
  have f0 := blk_frozen hG 0; have f1 := blk_frozen hG 1; have f2 := blk_frozen hG 2; have f3 := blk_frozen hG 3; have f4 := blk_frozen hG 4; have f5 := blk_frozen hG 5
  simp only [List.getElem?_cons_zero, List.getElem?_cons_succ] at c0 c1 c2 c3 c4 c5
  have hne : w.heap.size + 1 ≠ w.heap.size := Nat.succ_ne_self _
  have HG := Lib.hid hG; have HR := Lib.hid hR; have HB := Lib.hid hB
  clear hb2 hcv hG hR hB H53 H54
  by_cases h62 : c = 62
  · cases hs1 : (el == [115, 99, 114, 105, 112, 116]) with
    | true =>
      have t62 : (((c.toNat : Nat) : Int) == 62) = true := by rw [h62]; rfl
      have q1 : ((bs el).toList == [115, 99, 114, 105, 112, 116]) = true := by rw [eq_bs]; exact hs1
      have hw : rawEl el = true := by unfold rawEl bScript; rw [hs1]; rfl
      have hr : R = ⟨12, el, at', [], q, f⟩ := by rw [HRe.out]; simp [stepW, startW, textW, b47, b61, l47, l33, h62, hw]
      have HRf := Lib.hid hr
      clear hr HRe hw hs1 h62
      go_upto_region 9 with (first | fail)
      have hGW : Blk (((w2.setCell ⟨w.heap.size, 0, none⟩ (.string ⟨#[84, 101, 120, 116]⟩)).setCell ⟨w.heap.size, 0, none⟩ (.string ⟨#[82, 97, 119]⟩)).setCell ⟨w.heap.size, 3, none⟩ (.string ⟨#[]⟩)) w.heap.size 69 [.string ⟨#[82, 97, 119]⟩, .string (bs el), .string (bs at'), .string ⟨#[]⟩, .int .u8 ((q.toNat : Nat) : Int), .bool f] := (blk_set (blk_set (blk_set HG.out 0 _) 0 _) 3 _)
      have hRW : Blk (((w2.setCell ⟨w.heap.size, 0, none⟩ (.string ⟨#[84, 101, 120, 116]⟩)).setCell ⟨w.heap.size, 0, none⟩ (.string ⟨#[82, 97, 119]⟩)).setCell ⟨w.heap.size, 3, none⟩ (.string ⟨#[]⟩)) (w.heap.size + 1) 69 [.string ⟨#[]⟩, .string ⟨#[]⟩, .string ⟨#[]⟩, .string ⟨#[]⟩, .int .u8 0, .bool false] := (blk_far (blk_far (blk_far HR.out hne _) hne _) hne _)
      have hBW : Below w.heap.size w (((w2.setCell ⟨w.heap.size, 0, none⟩ (.string ⟨#[84, 101, 120, 116]⟩)).setCell ⟨w.heap.size, 0, none⟩ (.string ⟨#[82, 97, 119]⟩)).setCell ⟨w.heap.size, 3, none⟩ (.string ⟨#[]⟩)) := (((HB.out.setCell (Nat.le_refl _) _).setCell (Nat.le_refl _) _).setCell (Nat.le_refl _) _)
      obtain ⟨W, hW⟩ : ∃ W, W = (((w2.setCell ⟨w.heap.size, 0, none⟩ (.string ⟨#[84, 101, 120, 116]⟩)).setCell ⟨w.heap.size, 0, none⟩ (.string ⟨#[82, 97, 119]⟩)).setCell ⟨w.heap.size, 3, none⟩ (.string ⟨#[]⟩)) := ⟨_, rfl⟩
      rw [← hW] at hGW hRW hBW ⊢
      clear hW c0 c1 c2 c3 c4 c5 f0 f1 f2 f3 f4 f5
      have c0 := blk_cell hGW 0; have c1 := blk_cell hGW 1; have c2 := blk_cell hGW 2; have c3 := blk_cell hGW 3; have c4 := blk_cell hGW 4; have c5 := blk_cell hGW 5
      simp only [List.getElem?_cons_zero, List.getElem?_cons_succ] at c0 c1 c2 c3 c4 c5
      have HRW := Lib.hid hRW; have HBW := Lib.hid hBW
      clear hGW hRW hBW
      go_wp2_with (refine wpList_store_row rfl 69 (.tmp 4) (.tmp 59) rfl (w.heap.size + 1) #[_, _, _, _, _, _] rfl rfl 69 _ HRW.out (by kernel_rfl) rfl (by simp [Value.oneCell']) ?_)
      refine bodyPost_ret (v := .agg #[.string ⟨#[82, 97, 119]⟩, .string (bs el), .string (bs at'), .string ⟨#[]⟩, .int .u8 ((q.toNat : Nat) : Int), .bool f]) (results_c Tryd.results33 _ _ _ ⟨w.heap.size + 1, 0, none⟩ _ rfl (load_walk _ (w.heap.size + 1) _ rfl ⟨_, HRW.out⟩)) rfl ?_
      exact ⟨by rw [HRf.out]; rfl, below_setRow HBW.out (Nat.le_succ _) _⟩
    | false =>
      cases hs2 : (el == [115, 116, 121, 108, 101]) with
      | true =>
        have t62 : (((c.toNat : Nat) : Int) == 62) = true := by rw [h62]; rfl
        have q1 : ((bs el).toList == [115, 99, 114, 105, 112, 116]) = false := by rw [eq_bs]; exact hs1
        have q2 : ((bs el).toList == [115, 116, 121, 108, 101]) = true := by rw [eq_bs]; exact hs2
        have hw : rawEl el = true := by unfold rawEl bScript bStyle; rw [hs1, hs2]; rfl
        have hr : R = ⟨12, el, at', [], q, f⟩ := by rw [HRe.out]; simp [stepW, startW, textW, b47, b61, l47, l33, h62, hw]
        have HRf := Lib.hid hr
        clear hr HRe hw hs1 hs2 h62
        go_upto_region 9 with (first | fail)
        have hGW : Blk (((w2.setCell ⟨w.heap.size, 0, none⟩ (.string ⟨#[84, 101, 120, 116]⟩)).setCell ⟨w.heap.size, 0, none⟩ (.string ⟨#[82, 97, 119]⟩)).setCell ⟨w.heap.size, 3, none⟩ (.string ⟨#[]⟩)) w.heap.size 69 [.string ⟨#[82, 97, 119]⟩, .string (bs el), .string (bs at'), .string ⟨#[]⟩, .int .u8 ((q.toNat : Nat) : Int), .bool f] := (blk_set (blk_set (blk_set HG.out 0 _) 0 _) 3 _)
        have hRW : Blk (((w2.setCell ⟨w.heap.size, 0, none⟩ (.string ⟨#[84, 101, 120, 116]⟩)).setCell ⟨w.heap.size, 0, none⟩ (.string ⟨#[82, 97, 119]⟩)).setCell ⟨w.heap.size, 3, none⟩ (.string ⟨#[]⟩)) (w.heap.size + 1) 69 [.string ⟨#[]⟩, .string ⟨#[]⟩, .string ⟨#[]⟩, .string ⟨#[]⟩, .int .u8 0, .bool false] := (blk_far (blk_far (blk_far HR.out hne _) hne _) hne _)
        have hBW : Below w.heap.size w (((w2.setCell ⟨w.heap.size, 0, none⟩ (.string ⟨#[84, 101, 120, 116]⟩)).setCell ⟨w.heap.size, 0, none⟩ (.string ⟨#[82, 97, 119]⟩)).setCell ⟨w.heap.size, 3, none⟩ (.string ⟨#[]⟩)) := (((HB.out.setCell (Nat.le_refl _) _).setCell (Nat.le_refl _) _).setCell (Nat.le_refl _) _)
        obtain ⟨W, hW⟩ : ∃ W, W = (((w2.setCell ⟨w.heap.size, 0, none⟩ (.string ⟨#[84, 101, 120, 116]⟩)).setCell ⟨w.heap.size, 0, none⟩ (.string ⟨#[82, 97, 119]⟩)).setCell ⟨w.heap.size, 3, none⟩ (.string ⟨#[]⟩)) := ⟨_, rfl⟩
        rw [← hW] at hGW hRW hBW ⊢
        clear hW c0 c1 c2 c3 c4 c5 f0 f1 f2 f3 f4 f5
        have c0 := blk_cell hGW 0; have c1 := blk_cell hGW 1; have c2 := blk_cell hGW 2; have c3 := blk_cell hGW 3; have c4 := blk_cell hGW 4; have c5 := blk_cell hGW 5
        simp only [List.getElem?_cons_zero, List.getElem?_cons_succ] at c0 c1 c2 c3 c4 c5
        have HRW := Lib.hid hRW; have HBW := Lib.hid hBW
        clear hGW hRW hBW
        go_wp2_with (refine wpList_store_row rfl 69 (.tmp 4) (.tmp 59) rfl (w.heap.size + 1) #[_, _, _, _, _, _] rfl rfl 69 _ HRW.out (by kernel_rfl) rfl (by simp [Value.oneCell']) ?_)
        refine bodyPost_ret (v := .agg #[.string ⟨#[82, 97, 119]⟩, .string (bs el), .string (bs at'), .string ⟨#[]⟩, .int .u8 ((q.toNat : Nat) : Int), .bool f]) (results_c Tryd.results33 _ _ _ ⟨w.heap.size + 1, 0, none⟩ _ rfl (load_walk _ (w.heap.size + 1) _ rfl ⟨_, HRW.out⟩)) rfl ?_
        exact ⟨by rw [HRf.out]; rfl, below_setRow HBW.out (Nat.le_succ _) _⟩
      | false =>
        have t62 : (((c.toNat : Nat) : Int) == 62) = true := by rw [h62]; rfl
        have q1 : ((bs el).toList == [115, 99, 114, 105, 112, 116]) = false := by rw [eq_bs]; exact hs1
        have q2 : ((bs el).toList == [115, 116, 121, 108, 101]) = false := by rw [eq_bs]; exact hs2
        have hw : rawEl el = false := by unfold rawEl bScript bStyle; rw [hs1, hs2]; rfl
        have hr : R = ⟨0, el, at', seen, q, f⟩ := by rw [HRe.out]; simp [stepW, startW, textW, b47, b61, l47, l33, h62, hw]
        have HRf := Lib.hid hr
        clear hr HRe hw hs1 hs2 h62
        go_upto_region 9 with (first | fail)
        have hGW : Blk (w2.setCell ⟨w.heap.size, 0, none⟩ (.string ⟨#[84, 101, 120, 116]⟩)) w.heap.size 69 [.string ⟨#[84, 101, 120, 116]⟩, .string (bs el), .string (bs at'), .string (bs seen), .int .u8 ((q.toNat : Nat) : Int), .bool f] := (blk_set HG.out 0 _)
        have hRW : Blk (w2.setCell ⟨w.heap.size, 0, none⟩ (.string ⟨#[84, 101, 120, 116]⟩)) (w.heap.size + 1) 69 [.string ⟨#[]⟩, .string ⟨#[]⟩, .string ⟨#[]⟩, .string ⟨#[]⟩, .int .u8 0, .bool false] := (blk_far HR.out hne _)
        have hBW : Below w.heap.size w (w2.setCell ⟨w.heap.size, 0, none⟩ (.string ⟨#[84, 101, 120, 116]⟩)) := (HB.out.setCell (Nat.le_refl _) _)
        obtain ⟨W, hW⟩ : ∃ W, W = (w2.setCell ⟨w.heap.size, 0, none⟩ (.string ⟨#[84, 101, 120, 116]⟩)) := ⟨_, rfl⟩
        rw [← hW] at hGW hRW hBW ⊢
        clear hW c0 c1 c2 c3 c4 c5 f0 f1 f2 f3 f4 f5
        have c0 := blk_cell hGW 0; have c1 := blk_cell hGW 1; have c2 := blk_cell hGW 2; have c3 := blk_cell hGW 3; have c4 := blk_cell hGW 4; have c5 := blk_cell hGW 5
        simp only [List.getElem?_cons_zero, List.getElem?_cons_succ] at c0 c1 c2 c3 c4 c5
        have HRW := Lib.hid hRW; have HBW := Lib.hid hBW
        clear hGW hRW hBW
        go_wp2_with (refine wpList_store_row rfl 69 (.tmp 4) (.tmp 59) rfl (w.heap.size + 1) #[_, _, _, _, _, _] rfl rfl 69 _ HRW.out (by kernel_rfl) rfl (by simp [Value.oneCell']) ?_)
        refine bodyPost_ret (v := .agg #[.string ⟨#[84, 101, 120, 116]⟩, .string (bs el), .string (bs at'), .string (bs seen), .int .u8 ((q.toNat : Nat) : Int), .bool f]) (results_c Tryd.results33 _ _ _ ⟨w.heap.size + 1, 0, none⟩ _ rfl (load_walk _ (w.heap.size + 1) _ rfl ⟨_, HRW.out⟩)) rfl ?_
        exact ⟨by rw [HRf.out]; rfl, below_setRow HBW.out (Nat.le_succ _) _⟩
  · cases hb : blankB c with
    | true =>
      have t62 : (((c.toNat : Nat) : Int) == 62) = false := ne_beq (d := 62) h62
      have hr : R = ⟨5, el, at', seen, q, f⟩ := by rw [HRe.out]; simp [stepW, startW, textW, b47, b61, l47, l33, h62, hb]
      have HRf := Lib.hid hr
      clear hr HRe h62
      go_upto_region 85 with (first | fail)
      have HRW := HR; have HBW := HB
      go_wp2_with (refine wpList_store_row rfl 69 (.tmp 4) (.tmp 232) rfl (w.heap.size + 1) #[_, _, _, _, _, _] rfl rfl 69 _ HRW.out (by kernel_rfl) rfl (by simp [Value.oneCell']) ?_)
      refine bodyPost_ret (v := .agg #[.string ⟨#[84, 97, 103]⟩, .string (bs el), .string (bs at'), .string (bs seen), .int .u8 ((q.toNat : Nat) : Int), .bool f]) (results_c Tryd.results33 _ _ _ ⟨w.heap.size + 1, 0, none⟩ _ rfl (load_walk _ (w.heap.size + 1) _ rfl ⟨_, HRW.out⟩)) rfl ?_
      exact ⟨by rw [HRf.out]; rfl, below_setRow HBW.out (Nat.le_succ _) _⟩
    | false =>
      by_cases h47 : c = 47
      · have t62 : (((c.toNat : Nat) : Int) == 62) = false := ne_beq (d := 62) h62
        have t47 : (((c.toNat : Nat) : Int) == 47) = true := by rw [h47]; rfl
        have hr : R = ⟨5, el, at', seen, q, f⟩ := by rw [HRe.out]; simp [stepW, startW, textW, b47, b61, l47, l33, h62, hb, h47]
        have HRf := Lib.hid hr
        clear hr HRe h62 h47
        go_upto_region 85 with (first | fail)
        have HRW := HR; have HBW := HB
        go_wp2_with (refine wpList_store_row rfl 69 (.tmp 4) (.tmp 232) rfl (w.heap.size + 1) #[_, _, _, _, _, _] rfl rfl 69 _ HRW.out (by kernel_rfl) rfl (by simp [Value.oneCell']) ?_)
        refine bodyPost_ret (v := .agg #[.string ⟨#[84, 97, 103]⟩, .string (bs el), .string (bs at'), .string (bs seen), .int .u8 ((q.toNat : Nat) : Int), .bool f]) (results_c Tryd.results33 _ _ _ ⟨w.heap.size + 1, 0, none⟩ _ rfl (load_walk _ (w.heap.size + 1) _ rfl ⟨_, HRW.out⟩)) rfl ?_
        exact ⟨by rw [HRf.out]; rfl, below_setRow HBW.out (Nat.le_succ _) _⟩
      · have t62 : (((c.toNat : Nat) : Int) == 62) = false := ne_beq (d := 62) h62
        have t47 : (((c.toNat : Nat) : Int) == 47) = false := ne_beq (d := 47) h47
        have hr : R = ⟨6, el, [smallB c], seen, q, f⟩ := by rw [HRe.out]; simp [stepW, startW, textW, b47, b61, l47, l33, h62, hb, h47]
        have HRf := Lib.hid hr
        clear hr HRe h62 h47
        go_upto_region 85 with (first | fail)
        have hGW : Blk ((w2.setCell ⟨w.heap.size, 0, none⟩ (.string ⟨#[65, 116, 116, 114]⟩)).setCell ⟨w.heap.size, 2, none⟩ (.string (bs [smallB c]))) w.heap.size 69 [.string ⟨#[65, 116, 116, 114]⟩, .string (bs el), .string (bs [smallB c]), .string (bs seen), .int .u8 ((q.toNat : Nat) : Int), .bool f] := (blk_set (blk_set HG.out 0 _) 2 _)
        have hRW : Blk ((w2.setCell ⟨w.heap.size, 0, none⟩ (.string ⟨#[65, 116, 116, 114]⟩)).setCell ⟨w.heap.size, 2, none⟩ (.string (bs [smallB c]))) (w.heap.size + 1) 69 [.string ⟨#[]⟩, .string ⟨#[]⟩, .string ⟨#[]⟩, .string ⟨#[]⟩, .int .u8 0, .bool false] := (blk_far (blk_far HR.out hne _) hne _)
        have hBW : Below w.heap.size w ((w2.setCell ⟨w.heap.size, 0, none⟩ (.string ⟨#[65, 116, 116, 114]⟩)).setCell ⟨w.heap.size, 2, none⟩ (.string (bs [smallB c]))) := ((HB.out.setCell (Nat.le_refl _) _).setCell (Nat.le_refl _) _)
        obtain ⟨W, hW⟩ : ∃ W, W = ((w2.setCell ⟨w.heap.size, 0, none⟩ (.string ⟨#[65, 116, 116, 114]⟩)).setCell ⟨w.heap.size, 2, none⟩ (.string (bs [smallB c]))) := ⟨_, rfl⟩
        rw [← hW] at hGW hRW hBW ⊢
        clear hW c0 c1 c2 c3 c4 c5 f0 f1 f2 f3 f4 f5
        have c0 := blk_cell hGW 0; have c1 := blk_cell hGW 1; have c2 := blk_cell hGW 2; have c3 := blk_cell hGW 3; have c4 := blk_cell hGW 4; have c5 := blk_cell hGW 5
        simp only [List.getElem?_cons_zero, List.getElem?_cons_succ] at c0 c1 c2 c3 c4 c5
        have HRW := Lib.hid hRW; have HBW := Lib.hid hBW
        clear hGW hRW hBW
        go_wp2_with (refine wpList_store_row rfl 69 (.tmp 4) (.tmp 232) rfl (w.heap.size + 1) #[_, _, _, _, _, _] rfl rfl 69 _ HRW.out (by kernel_rfl) rfl (by simp [Value.oneCell']) ?_)
        refine bodyPost_ret (v := .agg #[.string ⟨#[65, 116, 116, 114]⟩, .string (bs el), .string (bs [smallB c]), .string (bs seen), .int .u8 ((q.toNat : Nat) : Int), .bool f]) (results_c Tryd.results33 _ _ _ ⟨w.heap.size + 1, 0, none⟩ _ rfl (load_walk _ (w.heap.size + 1) _ rfl ⟨_, HRW.out⟩)) rfl ?_
        exact ⟨by rw [HRf.out]; rfl, below_setRow HBW.out (Nat.le_succ _) _⟩
set_option maxHeartbeats 4000000 in
set_option maxRecDepth 100000 in
theorem stp_10 (el at' seen : Bs) (q c : UInt8) (f : Bool) (w : World) :
    Calls Tryd.prog 33 #[walkV ⟨10, el, at', seen, q, f⟩, u8v c] w fun e w' => e = .returned (walkV (stepW ⟨10, el, at', seen, q, f⟩ c)) ∧ Below w.heap.size w w' := by
  have H53 := Lib.hid (blank_one c)
  have H54 := Lib.hid (smallR_one c)
  obtain ⟨R, hRe⟩ : ∃ R, R = stepW ⟨10, el, at', seen, q, f⟩ c := ⟨_, rfl⟩
  rw [← hRe]
  have HRe := Lib.hid hRe; clear hRe
  rw [show walkV ⟨10, el, at', seen, q, f⟩ = .agg #[.string ⟨#[66, 97, 114, 101]⟩, .string (bs el), .string (bs at'), .string (bs seen), .int .u8 ((q.toNat : Nat) : Int), .bool f] from rfl]
  unfold u8v at *
  go_enter Tryd.func33, Tryd.ntmps33
  have hcv := fun A B => conv_two w A B c
  go_upto_region 3 with (first | (go_at_call 53; refine (H53.out _).mono ?_; rintro e w1 ⟨rfl, rfl⟩) | (go_at_call 54; refine (H54.out _).mono ?_; rintro e w2 ⟨rfl, hb2⟩))
  obtain ⟨hG, hR, hB⟩ := two_blocks _ _ _ hb2
  have c0 := blk_cell hG 0; have c1 := blk_cell hG 1; have c2 := blk_cell hG 2; have c3 := blk_cell hG 3; have c4 := blk_cell hG 4; have c5 := blk_cell hG 5
  have f0 := blk_frozen hG 0; have f1 := blk_frozen hG 1; have f2 := blk_frozen hG 2; have f3 := blk_frozen hG 3; have f4 := blk_frozen hG 4; have f5 := blk_frozen hG 5
  simp only [List.getElem?_cons_zero, List.getElem?_cons_succ] at c0 c1 c2 c3 c4 c5
  have hne : w.heap.size + 1 ≠ w.heap.size := Nat.succ_ne_self _
  have HG := Lib.hid hG; have HR := Lib.hid hR; have HB := Lib.hid hB
  clear hb2 hcv hG hR hB H53 H54
  by_cases h62 : c = 62
  · cases hs1 : (el == [115, 99, 114, 105, 112, 116]) with
    | true =>
      have t62 : (((c.toNat : Nat) : Int) == 62) = true := by rw [h62]; rfl
      have q1 : ((bs el).toList == [115, 99, 114, 105, 112, 116]) = true := by rw [eq_bs]; exact hs1
      have hw : rawEl el = true := by unfold rawEl bScript; rw [hs1]; rfl
      have hr : R = ⟨12, el, at', [], q, f⟩ := by rw [HRe.out]; simp [stepW, startW, textW, b47, b61, l47, l33, h62, hw]
      have HRf := Lib.hid hr
      clear hr HRe hw hs1 h62
      go_upto_region 9 with (first | fail)
      have hGW : Blk (((w2.setCell ⟨w.heap.size, 0, none⟩ (.string ⟨#[84, 101, 120, 116]⟩)).setCell ⟨w.heap.size, 0, none⟩ (.string ⟨#[82, 97, 119]⟩)).setCell ⟨w.heap.size, 3, none⟩ (.string ⟨#[]⟩)) w.heap.size 69 [.string ⟨#[82, 97, 119]⟩, .string (bs el), .string (bs at'), .string ⟨#[]⟩, .int .u8 ((q.toNat : Nat) : Int), .bool f] := (blk_set (blk_set (blk_set HG.out 0 _) 0 _) 3 _)
      have hRW : Blk (((w2.setCell ⟨w.heap.size, 0, none⟩ (.string ⟨#[84, 101, 120, 116]⟩)).setCell ⟨w.heap.size, 0, none⟩ (.string ⟨#[82, 97, 119]⟩)).setCell ⟨w.heap.size, 3, none⟩ (.string ⟨#[]⟩)) (w.heap.size + 1) 69 [.string ⟨#[]⟩, .string ⟨#[]⟩, .string ⟨#[]⟩, .string ⟨#[]⟩, .int .u8 0, .bool false] := (blk_far (blk_far (blk_far HR.out hne _) hne _) hne _)
      have hBW : Below w.heap.size w (((w2.setCell ⟨w.heap.size, 0, none⟩ (.string ⟨#[84, 101, 120, 116]⟩)).setCell ⟨w.heap.size, 0, none⟩ (.string ⟨#[82, 97, 119]⟩)).setCell ⟨w.heap.size, 3, none⟩ (.string ⟨#[]⟩)) := (((HB.out.setCell (Nat.le_refl _) _).setCell (Nat.le_refl _) _).setCell (Nat.le_refl _) _)
      obtain ⟨W, hW⟩ : ∃ W, W = (((w2.setCell ⟨w.heap.size, 0, none⟩ (.string ⟨#[84, 101, 120, 116]⟩)).setCell ⟨w.heap.size, 0, none⟩ (.string ⟨#[82, 97, 119]⟩)).setCell ⟨w.heap.size, 3, none⟩ (.string ⟨#[]⟩)) := ⟨_, rfl⟩
      rw [← hW] at hGW hRW hBW ⊢
      clear hW c0 c1 c2 c3 c4 c5 f0 f1 f2 f3 f4 f5
      have c0 := blk_cell hGW 0; have c1 := blk_cell hGW 1; have c2 := blk_cell hGW 2; have c3 := blk_cell hGW 3; have c4 := blk_cell hGW 4; have c5 := blk_cell hGW 5
      simp only [List.getElem?_cons_zero, List.getElem?_cons_succ] at c0 c1 c2 c3 c4 c5
      have HRW := Lib.hid hRW; have HBW := Lib.hid hBW
      clear hGW hRW hBW
      go_wp2_with (refine wpList_store_row rfl 69 (.tmp 4) (.tmp 59) rfl (w.heap.size + 1) #[_, _, _, _, _, _] rfl rfl 69 _ HRW.out (by kernel_rfl) rfl (by simp [Value.oneCell']) ?_)
      refine bodyPost_ret (v := .agg #[.string ⟨#[82, 97, 119]⟩, .string (bs el), .string (bs at'), .string ⟨#[]⟩, .int .u8 ((q.toNat : Nat) : Int), .bool f]) (results_c Tryd.results33 _ _ _ ⟨w.heap.size + 1, 0, none⟩ _ rfl (load_walk _ (w.heap.size + 1) _ rfl ⟨_, HRW.out⟩)) rfl ?_
      exact ⟨by rw [HRf.out]; rfl, below_setRow HBW.out (Nat.le_succ _) _⟩
    | false =>
      cases hs2 : (el == [115, 116, 121, 108, 101]) with
      | true =>
        have t62 : (((c.toNat : Nat) : Int) == 62) = true := by rw [h62]; rfl
        have q1 : ((bs el).toList == [115, 99, 114, 105, 112, 116]) = false := by rw [eq_bs]; exact hs1
        have q2 : ((bs el).toList == [115, 116, 121, 108, 101]) = true := by rw [eq_bs]; exact hs2
        have hw : rawEl el = true := by unfold rawEl bScript bStyle; rw [hs1, hs2]; rfl
        have hr : R = ⟨12, el, at', [], q, f⟩ := by rw [HRe.out]; simp [stepW, startW, textW, b47, b61, l47, l33, h62, hw]
        have HRf := Lib.hid hr
        clear hr HRe hw hs1 hs2 h62
        go_upto_region 9 with (first | fail)
        have hGW : Blk (((w2.setCell ⟨w.heap.size, 0, none⟩ (.string ⟨#[84, 101, 120, 116]⟩)).setCell ⟨w.heap.size, 0, none⟩ (.string ⟨#[82, 97, 119]⟩)).setCell ⟨w.heap.size, 3, none⟩ (.string ⟨#[]⟩)) w.heap.size 69 [.string ⟨#[82, 97, 119]⟩, .string (bs el), .string (bs at'), .string ⟨#[]⟩, .int .u8 ((q.toNat : Nat) : Int), .bool f] := (blk_set (blk_set (blk_set HG.out 0 _) 0 _) 3 _)
        have hRW : Blk (((w2.setCell ⟨w.heap.size, 0, none⟩ (.string ⟨#[84, 101, 120, 116]⟩)).setCell ⟨w.heap.size, 0, none⟩ (.string ⟨#[82, 97, 119]⟩)).setCell ⟨w.heap.size, 3, none⟩ (.string ⟨#[]⟩)) (w.heap.size + 1) 69 [.string ⟨#[]⟩, .string ⟨#[]⟩, .string ⟨#[]⟩, .string ⟨#[]⟩, .int .u8 0, .bool false] := (blk_far (blk_far (blk_far HR.out hne _) hne _) hne _)
        have hBW : Below w.heap.size w (((w2.setCell ⟨w.heap.size, 0, none⟩ (.string ⟨#[84, 101, 120, 116]⟩)).setCell ⟨w.heap.size, 0, none⟩ (.string ⟨#[82, 97, 119]⟩)).setCell ⟨w.heap.size, 3, none⟩ (.string ⟨#[]⟩)) := (((HB.out.setCell (Nat.le_refl _) _).setCell (Nat.le_refl _) _).setCell (Nat.le_refl _) _)
        obtain ⟨W, hW⟩ : ∃ W, W = (((w2.setCell ⟨w.heap.size, 0, none⟩ (.string ⟨#[84, 101, 120, 116]⟩)).setCell ⟨w.heap.size, 0, none⟩ (.string ⟨#[82, 97, 119]⟩)).setCell ⟨w.heap.size, 3, none⟩ (.string ⟨#[]⟩)) := ⟨_, rfl⟩
        rw [← hW] at hGW hRW hBW ⊢
        clear hW c0 c1 c2 c3 c4 c5 f0 f1 f2 f3 f4 f5
        have c0 := blk_cell hGW 0; have c1 := blk_cell hGW 1; have c2 := blk_cell hGW 2; have c3 := blk_cell hGW 3; have c4 := blk_cell hGW 4; have c5 := blk_cell hGW 5
        simp only [List.getElem?_cons_zero, List.getElem?_cons_succ] at c0 c1 c2 c3 c4 c5
        have HRW := Lib.hid hRW; have HBW := Lib.hid hBW
        clear hGW hRW hBW
        go_wp2_with (refine wpList_store_row rfl 69 (.tmp 4) (.tmp 59) rfl (w.heap.size + 1) #[_, _, _, _, _, _] rfl rfl 69 _ HRW.out (by kernel_rfl) rfl (by simp [Value.oneCell']) ?_)
        refine bodyPost_ret (v := .agg #[.string ⟨#[82, 97, 119]⟩, .string (bs el), .string (bs at'), .string ⟨#[]⟩, .int .u8 ((q.toNat : Nat) : Int), .bool f]) (results_c Tryd.results33 _ _ _ ⟨w.heap.size + 1, 0, none⟩ _ rfl (load_walk _ (w.heap.size + 1) _ rfl ⟨_, HRW.out⟩)) rfl ?_
        exact ⟨by rw [HRf.out]; rfl, below_setRow HBW.out (Nat.le_succ _) _⟩
      | false =>
        have t62 : (((c.toNat : Nat) : Int) == 62) = true := by rw [h62]; rfl
        have q1 : ((bs el).toList == [115, 99, 114, 105, 112, 116]) = false := by rw [eq_bs]; exact hs1
        have q2 : ((bs el).toList == [115, 116, 121, 108, 101]) = false := by rw [eq_bs]; exact hs2
        have hw : rawEl el = false := by unfold rawEl bScript bStyle; rw [hs1, hs2]; rfl
        have hr : R = ⟨0, el, at', seen, q, f⟩ := by rw [HRe.out]; simp [stepW, startW, textW, b47, b61, l47, l33, h62, hw]
        have HRf := Lib.hid hr
        clear hr HRe hw hs1 hs2 h62
        go_upto_region 9 with (first | fail)
        have hGW : Blk (w2.setCell ⟨w.heap.size, 0, none⟩ (.string ⟨#[84, 101, 120, 116]⟩)) w.heap.size 69 [.string ⟨#[84, 101, 120, 116]⟩, .string (bs el), .string (bs at'), .string (bs seen), .int .u8 ((q.toNat : Nat) : Int), .bool f] := (blk_set HG.out 0 _)
        have hRW : Blk (w2.setCell ⟨w.heap.size, 0, none⟩ (.string ⟨#[84, 101, 120, 116]⟩)) (w.heap.size + 1) 69 [.string ⟨#[]⟩, .string ⟨#[]⟩, .string ⟨#[]⟩, .string ⟨#[]⟩, .int .u8 0, .bool false] := (blk_far HR.out hne _)
        have hBW : Below w.heap.size w (w2.setCell ⟨w.heap.size, 0, none⟩ (.string ⟨#[84, 101, 120, 116]⟩)) := (HB.out.setCell (Nat.le_refl _) _)
        obtain ⟨W, hW⟩ : ∃ W, W = (w2.setCell ⟨w.heap.size, 0, none⟩ (.string ⟨#[84, 101, 120, 116]⟩)) := ⟨_, rfl⟩
        rw [← hW] at hGW hRW hBW ⊢
        clear hW c0 c1 c2 c3 c4 c5 f0 f1 f2 f3 f4 f5
        have c0 := blk_cell hGW 0; have c1 := blk_cell hGW 1; have c2 := blk_cell hGW 2; have c3 := blk_cell hGW 3; have c4 := blk_cell hGW 4; have c5 := blk_cell hGW 5
        simp only [List.getElem?_cons_zero, List.getElem?_cons_succ] at c0 c1 c2 c3 c4 c5
        have HRW := Lib.hid hRW; have HBW := Lib.hid hBW
        clear hGW hRW hBW
        go_wp2_with (refine wpList_store_row rfl 69 (.tmp 4) (.tmp 59) rfl (w.heap.size + 1) #[_, _, _, _, _, _] rfl rfl 69 _ HRW.out (by kernel_rfl) rfl (by simp [Value.oneCell']) ?_)
        refine bodyPost_ret (v := .agg #[.string ⟨#[84, 101, 120, 116]⟩, .string (bs el), .string (bs at'), .string (bs seen), .int .u8 ((q.toNat : Nat) : Int), .bool f]) (results_c Tryd.results33 _ _ _ ⟨w.heap.size + 1, 0, none⟩ _ rfl (load_walk _ (w.heap.size + 1) _ rfl ⟨_, HRW.out⟩)) rfl ?_
        exact ⟨by rw [HRf.out]; rfl, below_setRow HBW.out (Nat.le_succ _) _⟩
  · cases hb : blankB c with
    | true =>
      have t62 : (((c.toNat : Nat) : Int) == 62) = false := ne_beq (d := 62) h62
      have hr : R = ⟨5, el, at', seen, q, f⟩ := by rw [HRe.out]; simp [stepW, startW, textW, b47, b61, l47, l33, h62, hb]
      have HRf := Lib.hid hr
      clear hr HRe h62
      go_upto_region 85 with (first | fail)
      have hGW : Blk (w2.setCell ⟨w.heap.size, 0, none⟩ (.string ⟨#[84, 97, 103]⟩)) w.heap.size 69 [.string ⟨#[84, 97, 103]⟩, .string (bs el), .string (bs at'), .string (bs seen), .int .u8 ((q.toNat : Nat) : Int), .bool f] := (blk_set HG.out 0 _)
      have hRW : Blk (w2.setCell ⟨w.heap.size, 0, none⟩ (.string ⟨#[84, 97, 103]⟩)) (w.heap.size + 1) 69 [.string ⟨#[]⟩, .string ⟨#[]⟩, .string ⟨#[]⟩, .string ⟨#[]⟩, .int .u8 0, .bool false] := (blk_far HR.out hne _)
      have hBW : Below w.heap.size w (w2.setCell ⟨w.heap.size, 0, none⟩ (.string ⟨#[84, 97, 103]⟩)) := (HB.out.setCell (Nat.le_refl _) _)
      obtain ⟨W, hW⟩ : ∃ W, W = (w2.setCell ⟨w.heap.size, 0, none⟩ (.string ⟨#[84, 97, 103]⟩)) := ⟨_, rfl⟩
      rw [← hW] at hGW hRW hBW ⊢
      clear hW c0 c1 c2 c3 c4 c5 f0 f1 f2 f3 f4 f5
      have c0 := blk_cell hGW 0; have c1 := blk_cell hGW 1; have c2 := blk_cell hGW 2; have c3 := blk_cell hGW 3; have c4 := blk_cell hGW 4; have c5 := blk_cell hGW 5
      simp only [List.getElem?_cons_zero, List.getElem?_cons_succ] at c0 c1 c2 c3 c4 c5
      have HRW := Lib.hid hRW; have HBW := Lib.hid hBW
      clear hGW hRW hBW
      go_wp2_with (refine wpList_store_row rfl 69 (.tmp 4) (.tmp 232) rfl (w.heap.size + 1) #[_, _, _, _, _, _] rfl rfl 69 _ HRW.out (by kernel_rfl) rfl (by simp [Value.oneCell']) ?_)
      refine bodyPost_ret (v := .agg #[.string ⟨#[84, 97, 103]⟩, .string (bs el), .string (bs at'), .string (bs seen), .int .u8 ((q.toNat : Nat) : Int), .bool f]) (results_c Tryd.results33 _ _ _ ⟨w.heap.size + 1, 0, none⟩ _ rfl (load_walk _ (w.heap.size + 1) _ rfl ⟨_, HRW.out⟩)) rfl ?_
      exact ⟨by rw [HRf.out]; rfl, below_setRow HBW.out (Nat.le_succ _) _⟩
    | false =>
      have t62 : (((c.toNat : Nat) : Int) == 62) = false := ne_beq (d := 62) h62
      have hr : R = ⟨10, el, at', seen, q, f⟩ := by rw [HRe.out]; simp [stepW, startW, textW, b47, b61, l47, l33, h62, hb]
      have HRf := Lib.hid hr
      clear hr HRe h62
      go_upto_region 85 with (first | fail)
      have HRW := HR; have HBW := HB
      go_wp2_with (refine wpList_store_row rfl 69 (.tmp 4) (.tmp 232) rfl (w.heap.size + 1) #[_, _, _, _, _, _] rfl rfl 69 _ HRW.out (by kernel_rfl) rfl (by simp [Value.oneCell']) ?_)
      refine bodyPost_ret (v := .agg #[.string ⟨#[66, 97, 114, 101]⟩, .string (bs el), .string (bs at'), .string (bs seen), .int .u8 ((q.toNat : Nat) : Int), .bool f]) (results_c Tryd.results33 _ _ _ ⟨w.heap.size + 1, 0, none⟩ _ rfl (load_walk _ (w.heap.size + 1) _ rfl ⟨_, HRW.out⟩)) rfl ?_
      exact ⟨by rw [HRf.out]; rfl, below_setRow HBW.out (Nat.le_succ _) _⟩
end Go.Proofs.YthilkpjdfjjikaaDoor
