/-
  The document's machine's step: more states.
-/
import Derived.Test.YthilkpjdfjjikaaDoorRst
set_option linter.unusedVariables false
set_option linter.unusedSimpArgs false
namespace Go.Proofs.YthilkpjdfjjikaaDoor
open Go.RowKit

set_option maxHeartbeats 4000000 in
set_option maxRecDepth 100000 in
theorem stp_7 (el at' seen : Bs) (q c : UInt8) (f : Bool) (w : World) :
    Calls Tryd.prog 33 #[walkV ⟨7, el, at', seen, q, f⟩, u8v c] w fun e w' => e = .returned (walkV (stepW ⟨7, el, at', seen, q, f⟩ c)) ∧ Below w.heap.size w w' := by
  have H53 := Lib.hid (blank_one c)
  have H54 := Lib.hid (smallR_one c)
  obtain ⟨R, hRe⟩ : ∃ R, R = stepW ⟨7, el, at', seen, q, f⟩ c := ⟨_, rfl⟩
  rw [← hRe]
  have HRe := Lib.hid hRe; clear hRe
  rw [show walkV ⟨7, el, at', seen, q, f⟩ = .agg #[.string ⟨#[65, 102, 116, 101, 114]⟩, .string (bs el), .string (bs at'), .string (bs seen), .int .u8 ((q.toNat : Nat) : Int), .bool f] from rfl]
  unfold u8v at *
  go_enter Tryd.func33, Tryd.ntmps33
  have hcv := fun A B => conv_two w A B c
  go_upto_region 3 with (first | (go_at_call 53; refine (H53.out _).mono ?_; rintro e w1 ⟨rfl, rfl⟩) | (go_at_call 54; refine (H54.out _).mono ?_; rintro e w2 ⟨rfl, hb2⟩))
  obtain ⟨hG, hR, hB⟩ := two_blocks _ _ _ hb2
  have c0 := blk_cell hG 0; have c1 := blk_cell hG 1; have c2 := blk_cell hG 2; have c3 := blk_cell hG 3; have c4 := blk_cell hG 4; have c5 := blk_cell hG 5
  have f0 := blk_frozen hG 0; have f1 := blk_frozen hG 1; have f2 := blk_frozen hG 2; have f3 := blk_frozen hG 3; have f4 := blk_frozen hG 4; have f5 := blk_frozen hG 5
  simp only [List.getElem?_cons_zero, List.getElem?_cons_succ] at c0 c1 c2 c3 c4 c5
  have hne : w.heap.size + 1 ≠ w.heap.size := Nat.succ_ne_self _
  have HG := Lib.hid hG; have HR := Lib.hid hR; have HB := Lib.hid hB
  clear hb2 hcv hG hR hB H53 H54
  by_cases h62 : c = 62
  · cases hs1 : (el == [115, 99, 114, 105, 112, 116]) with
    | true =>
      have t62 : (((c.toNat : Nat) : Int) == 62) = true := by rw [h62]; rfl
      have q1 : ((bs el).toList == [115, 99, 114, 105, 112, 116]) = true := by rw [eq_bs]; exact hs1
      have hw : rawEl el = true := by unfold rawEl bScript; rw [hs1]; rfl
      have hr : R = ⟨12, el, at', [], q, f⟩ := by rw [HRe.out]; simp [stepW, startW, textW, b47, b61, l47, l33, h62, hw]
      have HRf := Lib.hid hr
      clear hr HRe hw hs1 h62
      go_upto_region 9 with (first | fail)
      have hGW : Blk (((w2.setCell ⟨w.heap.size, 0, none⟩ (.string ⟨#[84, 101, 120, 116]⟩)).setCell ⟨w.heap.size, 0, none⟩ (.string ⟨#[82, 97, 119]⟩)).setCell ⟨w.heap.size, 3, none⟩ (.string ⟨#[]⟩)) w.heap.size 69 [.string ⟨#[82, 97, 119]⟩, .string (bs el), .string (bs at'), .string ⟨#[]⟩, .int .u8 ((q.toNat : Nat) : Int), .bool f] := (blk_set (blk_set (blk_set HG.out 0 _) 0 _) 3 _)
      have hRW : Blk (((w2.setCell ⟨w.heap.size, 0, none⟩ (.string ⟨#[84, 101, 120, 116]⟩)).setCell ⟨w.heap.size, 0, none⟩ (.string ⟨#[82, 97, 119]⟩)).setCell ⟨w.heap.size, 3, none⟩ (.string ⟨#[]⟩)) (w.heap.size + 1) 69 [.string ⟨#[]⟩, .string ⟨#[]⟩, .string ⟨#[]⟩, .string ⟨#[]⟩, .int .u8 0, .bool false] := (blk_far (blk_far (blk_far HR.out hne _) hne _) hne _)
      have hBW : Below w.heap.size w (((w2.setCell ⟨w.heap.size, 0, none⟩ (.string ⟨#[84, 101, 120, 116]⟩)).setCell ⟨w.heap.size, 0, none⟩ (.string ⟨#[82, 97, 119]⟩)).setCell ⟨w.heap.size, 3, none⟩ (.string ⟨#[]⟩)) := (((HB.out.setCell (Nat.le_refl _) _).setCell (Nat.le_refl _) _).setCell (Nat.le_refl _) _)
      obtain ⟨W, hW⟩ : ∃ W, W = (((w2.setCell ⟨w.heap.size, 0, none⟩ (.string ⟨#[84, 101, 120, 116]⟩)).setCell ⟨w.heap.size, 0, none⟩ (.string ⟨#[82, 97, 119]⟩)).setCell ⟨w.heap.size, 3, none⟩ (.string ⟨#[]⟩)) := ⟨_, rfl⟩
      rw [← hW] at hGW hRW hBW ⊢
      clear hW c0 c1 c2 c3 c4 c5 f0 f1 f2 f3 f4 f5
      have c0 := blk_cell hGW 0; have c1 := blk_cell hGW 1; have c2 := blk_cell hGW 2; have c3 := blk_cell hGW 3; have c4 := blk_cell hGW 4; have c5 := blk_cell hGW 5
      simp only [List.getElem?_cons_zero, List.getElem?_cons_succ] at c0 c1 c2 c3 c4 c5
      have HRW := Lib.hid hRW; have HBW := Lib.hid hBW
      clear hGW hRW hBW
      go_wp2_with (refine wpList_store_row rfl 69 (.tmp 4) (.tmp 59) rfl (w.heap.size + 1) #[_, _, _, _, _, _] rfl rfl 69 _ HRW.out (by kernel_rfl) rfl (by simp [Value.oneCell']) ?_)
      refine bodyPost_ret (v := .agg #[.string ⟨#[82, 97, 119]⟩, .string (bs el), .string (bs at'), .string ⟨#[]⟩, .int .u8 ((q.toNat : Nat) : Int), .bool f]) (results_c Tryd.results33 _ _ _ ⟨w.heap.size + 1, 0, none⟩ _ rfl (load_walk _ (w.heap.size + 1) _ rfl ⟨_, HRW.out⟩)) rfl ?_
      exact ⟨by rw [HRf.out]; rfl, below_setRow HBW.out (Nat.le_succ _) _⟩
    | false =>
      cases hs2 : (el == [115, 116, 121, 108, 101]) with
      | true =>
        have t62 : (((c.toNat : Nat) : Int) == 62) = true := by rw [h62]; rfl
        have q1 : ((bs el).toList == [115, 99, 114, 105, 112, 116]) = false := by rw [eq_bs]; exact hs1
        have q2 : ((bs el).toList == [115, 116, 121, 108, 101]) = true := by rw [eq_bs]; exact hs2
        have hw : rawEl el = true := by unfold rawEl bScript bStyle; rw [hs1, hs2]; rfl
        have hr : R = ⟨12, el, at', [], q, f⟩ := by rw [HRe.out]; simp [stepW, startW, textW, b47, b61, l47, l33, h62, hw]
        have HRf := Lib.hid hr
        clear hr HRe hw hs1 hs2 h62
        go_upto_region 9 with (first | fail)
        have hGW : Blk (((w2.setCell ⟨w.heap.size, 0, none⟩ (.string ⟨#[84, 101, 120, 116]⟩)).setCell ⟨w.heap.size, 0, none⟩ (.string ⟨#[82, 97, 119]⟩)).setCell ⟨w.heap.size, 3, none⟩ (.string ⟨#[]⟩)) w.heap.size 69 [.string ⟨#[82, 97, 119]⟩, .string (bs el), .string (bs at'), .string ⟨#[]⟩, .int .u8 ((q.toNat : Nat) : Int), .bool f] := (blk_set (blk_set (blk_set HG.out 0 _) 0 _) 3 _)
        have hRW : Blk (((w2.setCell ⟨w.heap.size, 0, none⟩ (.string ⟨#[84, 101, 120, 116]⟩)).setCell ⟨w.heap.size, 0, none⟩ (.string ⟨#[82, 97, 119]⟩)).setCell ⟨w.heap.size, 3, none⟩ (.string ⟨#[]⟩)) (w.heap.size + 1) 69 [.string ⟨#[]⟩, .string ⟨#[]⟩, .string ⟨#[]⟩, .string ⟨#[]⟩, .int .u8 0, .bool false] := (blk_far (blk_far (blk_far HR.out hne _) hne _) hne _)
        have hBW : Below w.heap.size w (((w2.setCell ⟨w.heap.size, 0, none⟩ (.string ⟨#[84, 101, 120, 116]⟩)).setCell ⟨w.heap.size, 0, none⟩ (.string ⟨#[82, 97, 119]⟩)).setCell ⟨w.heap.size, 3, none⟩ (.string ⟨#[]⟩)) := (((HB.out.setCell (Nat.le_refl _) _).setCell (Nat.le_refl _) _).setCell (Nat.le_refl _) _)
        obtain ⟨W, hW⟩ : ∃ W, W = (((w2.setCell ⟨w.heap.size, 0, none⟩ (.string ⟨#[84, 101, 120, 116]⟩)).setCell ⟨w.heap.size, 0, none⟩ (.string ⟨#[82, 97, 119]⟩)).setCell ⟨w.heap.size, 3, none⟩ (.string ⟨#[]⟩)) := ⟨_, rfl⟩
        rw [← hW] at hGW hRW hBW ⊢
        clear hW c0 c1 c2 c3 c4 c5 f0 f1 f2 f3 f4 f5
        have c0 := blk_cell hGW 0; have c1 := blk_cell hGW 1; have c2 := blk_cell hGW 2; have c3 := blk_cell hGW 3; have c4 := blk_cell hGW 4; have c5 := blk_cell hGW 5
        simp only [List.getElem?_cons_zero, List.getElem?_cons_succ] at c0 c1 c2 c3 c4 c5
        have HRW := Lib.hid hRW; have HBW := Lib.hid hBW
        clear hGW hRW hBW
        go_wp2_with (refine wpList_store_row rfl 69 (.tmp 4) (.tmp 59) rfl (w.heap.size + 1) #[_, _, _, _, _, _] rfl rfl 69 _ HRW.out (by kernel_rfl) rfl (by simp [Value.oneCell']) ?_)
        refine bodyPost_ret (v := .agg #[.string ⟨#[82, 97, 119]⟩, .string (bs el), .string (bs at'), .string ⟨#[]⟩, .int .u8 ((q.toNat : Nat) : Int), .bool f]) (results_c Tryd.results33 _ _ _ ⟨w.heap.size + 1, 0, none⟩ _ rfl (load_walk _ (w.heap.size + 1) _ rfl ⟨_, HRW.out⟩)) rfl ?_
        exact ⟨by rw [HRf.out]; rfl, below_setRow HBW.out (Nat.le_succ _) _⟩
      | false =>
        have t62 : (((c.toNat : Nat) : Int) == 62) = true := by rw [h62]; rfl
        have q1 : ((bs el).toList == [115, 99, 114, 105, 112, 116]) = false := by rw [eq_bs]; exact hs1
        have q2 : ((bs el).toList == [115, 116, 121, 108, 101]) = false := by rw [eq_bs]; exact hs2
        have hw : rawEl el = false := by unfold rawEl bScript bStyle; rw [hs1, hs2]; rfl
        have hr : R = ⟨0, el, at', seen, q, f⟩ := by rw [HRe.out]; simp [stepW, startW, textW, b47, b61, l47, l33, h62, hw]
        have HRf := Lib.hid hr
        clear hr HRe hw hs1 hs2 h62
        go_upto_region 9 with (first | fail)
        have hGW : Blk (w2.setCell ⟨w.heap.size, 0, none⟩ (.string ⟨#[84, 101, 120, 116]⟩)) w.heap.size 69 [.string ⟨#[84, 101, 120, 116]⟩, .string (bs el), .string (bs at'), .string (bs seen), .int .u8 ((q.toNat : Nat) : Int), .bool f] := (blk_set HG.out 0 _)
        have hRW : Blk (w2.setCell ⟨w.heap.size, 0, none⟩ (.string ⟨#[84, 101, 120, 116]⟩)) (w.heap.size + 1) 69 [.string ⟨#[]⟩, .string ⟨#[]⟩, .string ⟨#[]⟩, .string ⟨#[]⟩, .int .u8 0, .bool false] := (blk_far HR.out hne _)
        have hBW : Below w.heap.size w (w2.setCell ⟨w.heap.size, 0, none⟩ (.string ⟨#[84, 101, 120, 116]⟩)) := (HB.out.setCell (Nat.le_refl _) _)
        obtain ⟨W, hW⟩ : ∃ W, W = (w2.setCell ⟨w.heap.size, 0, none⟩ (.string ⟨#[84, 101, 120, 116]⟩)) := ⟨_, rfl⟩
        rw [← hW] at hGW hRW hBW ⊢
        clear hW c0 c1 c2 c3 c4 c5 f0 f1 f2 f3 f4 f5
        have c0 := blk_cell hGW 0; have c1 := blk_cell hGW 1; have c2 := blk_cell hGW 2; have c3 := blk_cell hGW 3; have c4 := blk_cell hGW 4; have c5 := blk_cell hGW 5
        simp only [List.getElem?_cons_zero, List.getElem?_cons_succ] at c0 c1 c2 c3 c4 c5
        have HRW := Lib.hid hRW; have HBW := Lib.hid hBW
        clear hGW hRW hBW
        go_wp2_with (refine wpList_store_row rfl 69 (.tmp 4) (.tmp 59) rfl (w.heap.size + 1) #[_, _, _, _, _, _] rfl rfl 69 _ HRW.out (by kernel_rfl) rfl (by simp [Value.oneCell']) ?_)
        refine bodyPost_ret (v := .agg #[.string ⟨#[84, 101, 120, 116]⟩, .string (bs el), .string (bs at'), .string (bs seen), .int .u8 ((q.toNat : Nat) : Int), .bool f]) (results_c Tryd.results33 _ _ _ ⟨w.heap.size + 1, 0, none⟩ _ rfl (load_walk _ (w.heap.size + 1) _ rfl ⟨_, HRW.out⟩)) rfl ?_
        exact ⟨by rw [HRf.out]; rfl, below_setRow HBW.out (Nat.le_succ _) _⟩
  · by_cases h61 : c = 61
    · have t62 : (((c.toNat : Nat) : Int) == 62) = false := ne_beq (d := 62) h62
      have t61 : (((c.toNat : Nat) : Int) == 61) = true := by rw [h61]; rfl
      have hr : R = ⟨8, el, at', seen, q, f⟩ := by rw [HRe.out]; simp [stepW, startW, textW, b47, b61, l47, l33, h62, h61]
      have HRf := Lib.hid hr
      clear hr HRe h62 h61
      go_upto_region 85 with (first | fail)
      have hGW : Blk (w2.setCell ⟨w.heap.size, 0, none⟩ (.string ⟨#[66, 101, 102, 111, 114, 101]⟩)) w.heap.size 69 [.string ⟨#[66, 101, 102, 111, 114, 101]⟩, .string (bs el), .string (bs at'), .string (bs seen), .int .u8 ((q.toNat : Nat) : Int), .bool f] := (blk_set HG.out 0 _)
      have hRW : Blk (w2.setCell ⟨w.heap.size, 0, none⟩ (.string ⟨#[66, 101, 102, 111, 114, 101]⟩)) (w.heap.size + 1) 69 [.string ⟨#[]⟩, .string ⟨#[]⟩, .string ⟨#[]⟩, .string ⟨#[]⟩, .int .u8 0, .bool false] := (blk_far HR.out hne _)
      have hBW : Below w.heap.size w (w2.setCell ⟨w.heap.size, 0, none⟩ (.string ⟨#[66, 101, 102, 111, 114, 101]⟩)) := (HB.out.setCell (Nat.le_refl _) _)
      obtain ⟨W, hW⟩ : ∃ W, W = (w2.setCell ⟨w.heap.size, 0, none⟩ (.string ⟨#[66, 101, 102, 111, 114, 101]⟩)) := ⟨_, rfl⟩
      rw [← hW] at hGW hRW hBW ⊢
      clear hW c0 c1 c2 c3 c4 c5 f0 f1 f2 f3 f4 f5
      have c0 := blk_cell hGW 0; have c1 := blk_cell hGW 1; have c2 := blk_cell hGW 2; have c3 := blk_cell hGW 3; have c4 := blk_cell hGW 4; have c5 := blk_cell hGW 5
      simp only [List.getElem?_cons_zero, List.getElem?_cons_succ] at c0 c1 c2 c3 c4 c5
      have HRW := Lib.hid hRW; have HBW := Lib.hid hBW
      clear hGW hRW hBW
      go_wp2_with (refine wpList_store_row rfl 69 (.tmp 4) (.tmp 232) rfl (w.heap.size + 1) #[_, _, _, _, _, _] rfl rfl 69 _ HRW.out (by kernel_rfl) rfl (by simp [Value.oneCell']) ?_)
      refine bodyPost_ret (v := .agg #[.string ⟨#[66, 101, 102, 111, 114, 101]⟩, .string (bs el), .string (bs at'), .string (bs seen), .int .u8 ((q.toNat : Nat) : Int), .bool f]) (results_c Tryd.results33 _ _ _ ⟨w.heap.size + 1, 0, none⟩ _ rfl (load_walk _ (w.heap.size + 1) _ rfl ⟨_, HRW.out⟩)) rfl ?_
      exact ⟨by rw [HRf.out]; rfl, below_setRow HBW.out (Nat.le_succ _) _⟩
    · by_cases h47 : c = 47
      · have t62 : (((c.toNat : Nat) : Int) == 62) = false := ne_beq (d := 62) h62
        have t61 : (((c.toNat : Nat) : Int) == 61) = false := ne_beq (d := 61) h61
        have t47 : (((c.toNat : Nat) : Int) == 47) = true := by rw [h47]; rfl
        have hr : R = ⟨5, el, at', seen, q, f⟩ := by rw [HRe.out]; simp [stepW, startW, textW, b47, b61, l47, l33, h62, h61, h47]
        have HRf := Lib.hid hr
        clear hr HRe h62 h61 h47
        go_upto_region 85 with (first | fail)
        have hGW : Blk (w2.setCell ⟨w.heap.size, 0, none⟩ (.string ⟨#[84, 97, 103]⟩)) w.heap.size 69 [.string ⟨#[84, 97, 103]⟩, .string (bs el), .string (bs at'), .string (bs seen), .int .u8 ((q.toNat : Nat) : Int), .bool f] := (blk_set HG.out 0 _)
        have hRW : Blk (w2.setCell ⟨w.heap.size, 0, none⟩ (.string ⟨#[84, 97, 103]⟩)) (w.heap.size + 1) 69 [.string ⟨#[]⟩, .string ⟨#[]⟩, .string ⟨#[]⟩, .string ⟨#[]⟩, .int .u8 0, .bool false] := (blk_far HR.out hne _)
        have hBW : Below w.heap.size w (w2.setCell ⟨w.heap.size, 0, none⟩ (.string ⟨#[84, 97, 103]⟩)) := (HB.out.setCell (Nat.le_refl _) _)
        obtain ⟨W, hW⟩ : ∃ W, W = (w2.setCell ⟨w.heap.size, 0, none⟩ (.string ⟨#[84, 97, 103]⟩)) := ⟨_, rfl⟩
        rw [← hW] at hGW hRW hBW ⊢
        clear hW c0 c1 c2 c3 c4 c5 f0 f1 f2 f3 f4 f5
        have c0 := blk_cell hGW 0; have c1 := blk_cell hGW 1; have c2 := blk_cell hGW 2; have c3 := blk_cell hGW 3; have c4 := blk_cell hGW 4; have c5 := blk_cell hGW 5
        simp only [List.getElem?_cons_zero, List.getElem?_cons_succ] at c0 c1 c2 c3 c4 c5
        have HRW := Lib.hid hRW; have HBW := Lib.hid hBW
        clear hGW hRW hBW
        go_wp2_with (refine wpList_store_row rfl 69 (.tmp 4) (.tmp 232) rfl (w.heap.size + 1) #[_, _, _, _, _, _] rfl rfl 69 _ HRW.out (by kernel_rfl) rfl (by simp [Value.oneCell']) ?_)
        refine bodyPost_ret (v := .agg #[.string ⟨#[84, 97, 103]⟩, .string (bs el), .string (bs at'), .string (bs seen), .int .u8 ((q.toNat : Nat) : Int), .bool f]) (results_c Tryd.results33 _ _ _ ⟨w.heap.size + 1, 0, none⟩ _ rfl (load_walk _ (w.heap.size + 1) _ rfl ⟨_, HRW.out⟩)) rfl ?_
        exact ⟨by rw [HRf.out]; rfl, below_setRow HBW.out (Nat.le_succ _) _⟩
      · cases hb : blankB c with
        | true =>
          have t62 : (((c.toNat : Nat) : Int) == 62) = false := ne_beq (d := 62) h62
          have t61 : (((c.toNat : Nat) : Int) == 61) = false := ne_beq (d := 61) h61
          have t47 : (((c.toNat : Nat) : Int) == 47) = false := ne_beq (d := 47) h47
          have hr : R = ⟨7, el, at', seen, q, f⟩ := by rw [HRe.out]; simp [stepW, startW, textW, b47, b61, l47, l33, h62, h61, h47, hb]
          have HRf := Lib.hid hr
          clear hr HRe h62 h61 h47
          go_upto_region 85 with (first | fail)
          have HRW := HR; have HBW := HB
          go_wp2_with (refine wpList_store_row rfl 69 (.tmp 4) (.tmp 232) rfl (w.heap.size + 1) #[_, _, _, _, _, _] rfl rfl 69 _ HRW.out (by kernel_rfl) rfl (by simp [Value.oneCell']) ?_)
          refine bodyPost_ret (v := .agg #[.string ⟨#[65, 102, 116, 101, 114]⟩, .string (bs el), .string (bs at'), .string (bs seen), .int .u8 ((q.toNat : Nat) : Int), .bool f]) (results_c Tryd.results33 _ _ _ ⟨w.heap.size + 1, 0, none⟩ _ rfl (load_walk _ (w.heap.size + 1) _ rfl ⟨_, HRW.out⟩)) rfl ?_
          exact ⟨by rw [HRf.out]; rfl, below_setRow HBW.out (Nat.le_succ _) _⟩
        | false =>
          have t62 : (((c.toNat : Nat) : Int) == 62) = false := ne_beq (d := 62) h62
          have t61 : (((c.toNat : Nat) : Int) == 61) = false := ne_beq (d := 61) h61
          have t47 : (((c.toNat : Nat) : Int) == 47) = false := ne_beq (d := 47) h47
          have hr : R = ⟨6, el, [smallB c], seen, q, f⟩ := by rw [HRe.out]; simp [stepW, startW, textW, b47, b61, l47, l33, h62, h61, h47, hb]
          have HRf := Lib.hid hr
          clear hr HRe h62 h61 h47
          go_upto_region 85 with (first | fail)
          have hGW : Blk ((w2.setCell ⟨w.heap.size, 0, none⟩ (.string ⟨#[65, 116, 116, 114]⟩)).setCell ⟨w.heap.size, 2, none⟩ (.string (bs [smallB c]))) w.heap.size 69 [.string ⟨#[65, 116, 116, 114]⟩, .string (bs el), .string (bs [smallB c]), .string (bs seen), .int .u8 ((q.toNat : Nat) : Int), .bool f] := (blk_set (blk_set HG.out 0 _) 2 _)
          have hRW : Blk ((w2.setCell ⟨w.heap.size, 0, none⟩ (.string ⟨#[65, 116, 116, 114]⟩)).setCell ⟨w.heap.size, 2, none⟩ (.string (bs [smallB c]))) (w.heap.size + 1) 69 [.string ⟨#[]⟩, .string ⟨#[]⟩, .string ⟨#[]⟩, .string ⟨#[]⟩, .int .u8 0, .bool false] := (blk_far (blk_far HR.out hne _) hne _)
          have hBW : Below w.heap.size w ((w2.setCell ⟨w.heap.size, 0, none⟩ (.string ⟨#[65, 116, 116, 114]⟩)).setCell ⟨w.heap.size, 2, none⟩ (.string (bs [smallB c]))) := ((HB.out.setCell (Nat.le_refl _) _).setCell (Nat.le_refl _) _)
          obtain ⟨W, hW⟩ : ∃ W, W = ((w2.setCell ⟨w.heap.size, 0, none⟩ (.string ⟨#[65, 116, 116, 114]⟩)).setCell ⟨w.heap.size, 2, none⟩ (.string (bs [smallB c]))) := ⟨_, rfl⟩
          rw [← hW] at hGW hRW hBW ⊢
          clear hW c0 c1 c2 c3 c4 c5 f0 f1 f2 f3 f4 f5
          have c0 := blk_cell hGW 0; have c1 := blk_cell hGW 1; have c2 := blk_cell hGW 2; have c3 := blk_cell hGW 3; have c4 := blk_cell hGW 4; have c5 := blk_cell hGW 5
          simp only [List.getElem?_cons_zero, List.getElem?_cons_succ] at c0 c1 c2 c3 c4 c5
          have HRW := Lib.hid hRW; have HBW := Lib.hid hBW
          clear hGW hRW hBW
          go_wp2_with (refine wpList_store_row rfl 69 (.tmp 4) (.tmp 232) rfl (w.heap.size + 1) #[_, _, _, _, _, _] rfl rfl 69 _ HRW.out (by kernel_rfl) rfl (by simp [Value.oneCell']) ?_)
          refine bodyPost_ret (v := .agg #[.string ⟨#[65, 116, 116, 114]⟩, .string (bs el), .string (bs [smallB c]), .string (bs seen), .int .u8 ((q.toNat : Nat) : Int), .bool f]) (results_c Tryd.results33 _ _ _ ⟨w.heap.size + 1, 0, none⟩ _ rfl (load_walk _ (w.heap.size + 1) _ rfl ⟨_, HRW.out⟩)) rfl ?_
          exact ⟨by rw [HRf.out]; rfl, below_setRow HBW.out (Nat.le_succ _) _⟩
set_option maxHeartbeats 4000000 in
set_option maxRecDepth 100000 in
theorem stp_8 (el at' seen : Bs) (q c : UInt8) (f : Bool) (w : World) :
    Calls Tryd.prog 33 #[walkV ⟨8, el, at', seen, q, f⟩, u8v c] w fun e w' => e = .returned (walkV (stepW ⟨8, el, at', seen, q, f⟩ c)) ∧ Below w.heap.size w w' := by
  have H53 := Lib.hid (blank_one c)
  have H54 := Lib.hid (smallR_one c)
  obtain ⟨R, hRe⟩ : ∃ R, R = stepW ⟨8, el, at', seen, q, f⟩ c := ⟨_, rfl⟩
  rw [← hRe]
  have HRe := Lib.hid hRe; clear hRe
  rw [show walkV ⟨8, el, at', seen, q, f⟩ = .agg #[.string ⟨#[66, 101, 102, 111, 114, 101]⟩, .string (bs el), .string (bs at'), .string (bs seen), .int .u8 ((q.toNat : Nat) : Int), .bool f] from rfl]
  unfold u8v at *
  go_enter Tryd.func33, Tryd.ntmps33
  have hcv := fun A B => conv_two w A B c
  go_upto_region 3 with (first | (go_at_call 53; refine (H53.out _).mono ?_; rintro e w1 ⟨rfl, rfl⟩) | (go_at_call 54; refine (H54.out _).mono ?_; rintro e w2 ⟨rfl, hb2⟩))
  obtain ⟨hG, hR, hB⟩ := two_blocks _ _ _ hb2
  have c0 := blk_cell hG 0; have c1 := blk_cell hG 1; have c2 := blk_cell hG 2; have c3 := blk_cell hG 3; have c4 := blk_cell hG 4; have c5 := blk_cell hG 5
  have f0 := blk_frozen hG 0; have f1 := blk_frozen hG 1; have f2 := blk_frozen hG 2; have f3 := blk_frozen hG 3; have f4 := blk_frozen hG 4; have f5 := blk_frozen hG 5
  simp only [List.getElem?_cons_zero, List.getElem?_cons_succ] at c0 c1 c2 c3 c4 c5
  have hne : w.heap.size + 1 ≠ w.heap.size := Nat.succ_ne_self _
  have HG := Lib.hid hG; have HR := Lib.hid hR; have HB := Lib.hid hB
  clear hb2 hcv hG hR hB H53 H54
  by_cases h62 : c = 62
  · cases hs1 : (el == [115, 99, 114, 105, 112, 116]) with
    | true =>
      have t62 : (((c.toNat : Nat) : Int) == 62) = true := by rw [h62]; rfl
      have q1 : ((bs el).toList == [115, 99, 114, 105, 112, 116]) = true := by rw [eq_bs]; exact hs1
      have hw : rawEl el = true := by unfold rawEl bScript; rw [hs1]; rfl
      have hr : R = ⟨12, el, at', [], q, f⟩ := by rw [HRe.out]; simp [stepW, startW, textW, b47, b61, l47, l33, h62, hw]
      have HRf := Lib.hid hr
      clear hr HRe hw hs1 h62
      go_upto_region 9 with (first | fail)
      have hGW : Blk (((w2.setCell ⟨w.heap.size, 0, none⟩ (.string ⟨#[84, 101, 120, 116]⟩)).setCell ⟨w.heap.size, 0, none⟩ (.string ⟨#[82, 97, 119]⟩)).setCell ⟨w.heap.size, 3, none⟩ (.string ⟨#[]⟩)) w.heap.size 69 [.string ⟨#[82, 97, 119]⟩, .string (bs el), .string (bs at'), .string ⟨#[]⟩, .int .u8 ((q.toNat : Nat) : Int), .bool f] := (blk_set (blk_set (blk_set HG.out 0 _) 0 _) 3 _)
      have hRW : Blk (((w2.setCell ⟨w.heap.size, 0, none⟩ (.string ⟨#[84, 101, 120, 116]⟩)).setCell ⟨w.heap.size, 0, none⟩ (.string ⟨#[82, 97, 119]⟩)).setCell ⟨w.heap.size, 3, none⟩ (.string ⟨#[]⟩)) (w.heap.size + 1) 69 [.string ⟨#[]⟩, .string ⟨#[]⟩, .string ⟨#[]⟩, .string ⟨#[]⟩, .int .u8 0, .bool false] := (blk_far (blk_far (blk_far HR.out hne _) hne _) hne _)
      have hBW : Below w.heap.size w (((w2.setCell ⟨w.heap.size, 0, none⟩ (.string ⟨#[84, 101, 120, 116]⟩)).setCell ⟨w.heap.size, 0, none⟩ (.string ⟨#[82, 97, 119]⟩)).setCell ⟨w.heap.size, 3, none⟩ (.string ⟨#[]⟩)) := (((HB.out.setCell (Nat.le_refl _) _).setCell (Nat.le_refl _) _).setCell (Nat.le_refl _) _)
      obtain ⟨W, hW⟩ : ∃ W, W = (((w2.setCell ⟨w.heap.size, 0, none⟩ (.string ⟨#[84, 101, 120, 116]⟩)).setCell ⟨w.heap.size, 0, none⟩ (.string ⟨#[82, 97, 119]⟩)).setCell ⟨w.heap.size, 3, none⟩ (.string ⟨#[]⟩)) := ⟨_, rfl⟩
      rw [← hW] at hGW hRW hBW ⊢
      clear hW c0 c1 c2 c3 c4 c5 f0 f1 f2 f3 f4 f5
      have c0 := blk_cell hGW 0; have c1 := blk_cell hGW 1; have c2 := blk_cell hGW 2; have c3 := blk_cell hGW 3; have c4 := blk_cell hGW 4; have c5 := blk_cell hGW 5
      simp only [List.getElem?_cons_zero, List.getElem?_cons_succ] at c0 c1 c2 c3 c4 c5
      have HRW := Lib.hid hRW; have HBW := Lib.hid hBW
      clear hGW hRW hBW
      go_wp2_with (refine wpList_store_row rfl 69 (.tmp 4) (.tmp 59) rfl (w.heap.size + 1) #[_, _, _, _, _, _] rfl rfl 69 _ HRW.out (by kernel_rfl) rfl (by simp [Value.oneCell']) ?_)
      refine bodyPost_ret (v := .agg #[.string ⟨#[82, 97, 119]⟩, .string (bs el), .string (bs at'), .string ⟨#[]⟩, .int .u8 ((q.toNat : Nat) : Int), .bool f]) (results_c Tryd.results33 _ _ _ ⟨w.heap.size + 1, 0, none⟩ _ rfl (load_walk _ (w.heap.size + 1) _ rfl ⟨_, HRW.out⟩)) rfl ?_
      exact ⟨by rw [HRf.out]; rfl, below_setRow HBW.out (Nat.le_succ _) _⟩
    | false =>
      cases hs2 : (el == [115, 116, 121, 108, 101]) with
      | true =>
        have t62 : (((c.toNat : Nat) : Int) == 62) = true := by rw [h62]; rfl
        have q1 : ((bs el).toList == [115, 99, 114, 105, 112, 116]) = false := by rw [eq_bs]; exact hs1
        have q2 : ((bs el).toList == [115, 116, 121, 108, 101]) = true := by rw [eq_bs]; exact hs2
        have hw : rawEl el = true := by unfold rawEl bScript bStyle; rw [hs1, hs2]; rfl
        have hr : R = ⟨12, el, at', [], q, f⟩ := by rw [HRe.out]; simp [stepW, startW, textW, b47, b61, l47, l33, h62, hw]
        have HRf := Lib.hid hr
        clear hr HRe hw hs1 hs2 h62
        go_upto_region 9 with (first | fail)
        have hGW : Blk (((w2.setCell ⟨w.heap.size, 0, none⟩ (.string ⟨#[84, 101, 120, 116]⟩)).setCell ⟨w.heap.size, 0, none⟩ (.string ⟨#[82, 97, 119]⟩)).setCell ⟨w.heap.size, 3, none⟩ (.string ⟨#[]⟩)) w.heap.size 69 [.string ⟨#[82, 97, 119]⟩, .string (bs el), .string (bs at'), .string ⟨#[]⟩, .int .u8 ((q.toNat : Nat) : Int), .bool f] := (blk_set (blk_set (blk_set HG.out 0 _) 0 _) 3 _)
        have hRW : Blk (((w2.setCell ⟨w.heap.size, 0, none⟩ (.string ⟨#[84, 101, 120, 116]⟩)).setCell ⟨w.heap.size, 0, none⟩ (.string ⟨#[82, 97, 119]⟩)).setCell ⟨w.heap.size, 3, none⟩ (.string ⟨#[]⟩)) (w.heap.size + 1) 69 [.string ⟨#[]⟩, .string ⟨#[]⟩, .string ⟨#[]⟩, .string ⟨#[]⟩, .int .u8 0, .bool false] := (blk_far (blk_far (blk_far HR.out hne _) hne _) hne _)
        have hBW : Below w.heap.size w (((w2.setCell ⟨w.heap.size, 0, none⟩ (.string ⟨#[84, 101, 120, 116]⟩)).setCell ⟨w.heap.size, 0, none⟩ (.string ⟨#[82, 97, 119]⟩)).setCell ⟨w.heap.size, 3, none⟩ (.string ⟨#[]⟩)) := (((HB.out.setCell (Nat.le_refl _) _).setCell (Nat.le_refl _) _).setCell (Nat.le_refl _) _)
        obtain ⟨W, hW⟩ : ∃ W, W = (((w2.setCell ⟨w.heap.size, 0, none⟩ (.string ⟨#[84, 101, 120, 116]⟩)).setCell ⟨w.heap.size, 0, none⟩ (.string ⟨#[82, 97, 119]⟩)).setCell ⟨w.heap.size, 3, none⟩ (.string ⟨#[]⟩)) := ⟨_, rfl⟩
        rw [← hW] at hGW hRW hBW ⊢
        clear hW c0 c1 c2 c3 c4 c5 f0 f1 f2 f3 f4 f5
        have c0 := blk_cell hGW 0; have c1 := blk_cell hGW 1; have c2 := blk_cell hGW 2; have c3 := blk_cell hGW 3; have c4 := blk_cell hGW 4; have c5 := blk_cell hGW 5
        simp only [List.getElem?_cons_zero, List.getElem?_cons_succ] at c0 c1 c2 c3 c4 c5
        have HRW := Lib.hid hRW; have HBW := Lib.hid hBW
        clear hGW hRW hBW
        go_wp2_with (refine wpList_store_row rfl 69 (.tmp 4) (.tmp 59) rfl (w.heap.size + 1) #[_, _, _, _, _, _] rfl rfl 69 _ HRW.out (by kernel_rfl) rfl (by simp [Value.oneCell']) ?_)
        refine bodyPost_ret (v := .agg #[.string ⟨#[82, 97, 119]⟩, .string (bs el), .string (bs at'), .string ⟨#[]⟩, .int .u8 ((q.toNat : Nat) : Int), .bool f]) (results_c Tryd.results33 _ _ _ ⟨w.heap.size + 1, 0, none⟩ _ rfl (load_walk _ (w.heap.size + 1) _ rfl ⟨_, HRW.out⟩)) rfl ?_
        exact ⟨by rw [HRf.out]; rfl, below_setRow HBW.out (Nat.le_succ _) _⟩
      | false =>
        have t62 : (((c.toNat : Nat) : Int) == 62) = true := by rw [h62]; rfl
        have q1 : ((bs el).toList == [115, 99, 114, 105, 112, 116]) = false := by rw [eq_bs]; exact hs1
        have q2 : ((bs el).toList == [115, 116, 121, 108, 101]) = false := by rw [eq_bs]; exact hs2
        have hw : rawEl el = false := by unfold rawEl bScript bStyle; rw [hs1, hs2]; rfl
        have hr : R = ⟨0, el, at', seen, q, f⟩ := by rw [HRe.out]; simp [stepW, startW, textW, b47, b61, l47, l33, h62, hw]
        have HRf := Lib.hid hr
        clear hr HRe hw hs1 hs2 h62
        go_upto_region 9 with (first | fail)
        have hGW : Blk (w2.setCell ⟨w.heap.size, 0, none⟩ (.string ⟨#[84, 101, 120, 116]⟩)) w.heap.size 69 [.string ⟨#[84, 101, 120, 116]⟩, .string (bs el), .string (bs at'), .string (bs seen), .int .u8 ((q.toNat : Nat) : Int), .bool f] := (blk_set HG.out 0 _)
        have hRW : Blk (w2.setCell ⟨w.heap.size, 0, none⟩ (.string ⟨#[84, 101, 120, 116]⟩)) (w.heap.size + 1) 69 [.string ⟨#[]⟩, .string ⟨#[]⟩, .string ⟨#[]⟩, .string ⟨#[]⟩, .int .u8 0, .bool false] := (blk_far HR.out hne _)
        have hBW : Below w.heap.size w (w2.setCell ⟨w.heap.size, 0, none⟩ (.string ⟨#[84, 101, 120, 116]⟩)) := (HB.out.setCell (Nat.le_refl _) _)
        obtain ⟨W, hW⟩ : ∃ W, W = (w2.setCell ⟨w.heap.size, 0, none⟩ (.string ⟨#[84, 101, 120, 116]⟩)) := ⟨_, rfl⟩
        rw [← hW] at hGW hRW hBW ⊢
        clear hW c0 c1 c2 c3 c4 c5 f0 f1 f2 f3 f4 f5
        have c0 := blk_cell hGW 0; have c1 := blk_cell hGW 1; have c2 := blk_cell hGW 2; have c3 := blk_cell hGW 3; have c4 := blk_cell hGW 4; have c5 := blk_cell hGW 5
        simp only [List.getElem?_cons_zero, List.getElem?_cons_succ] at c0 c1 c2 c3 c4 c5
        have HRW := Lib.hid hRW; have HBW := Lib.hid hBW
        clear hGW hRW hBW
        go_wp2_with (refine wpList_store_row rfl 69 (.tmp 4) (.tmp 59) rfl (w.heap.size + 1) #[_, _, _, _, _, _] rfl rfl 69 _ HRW.out (by kernel_rfl) rfl (by simp [Value.oneCell']) ?_)
        refine bodyPost_ret (v := .agg #[.string ⟨#[84, 101, 120, 116]⟩, .string (bs el), .string (bs at'), .string (bs seen), .int .u8 ((q.toNat : Nat) : Int), .bool f]) (results_c Tryd.results33 _ _ _ ⟨w.heap.size + 1, 0, none⟩ _ rfl (load_walk _ (w.heap.size + 1) _ rfl ⟨_, HRW.out⟩)) rfl ?_
        exact ⟨by rw [HRf.out]; rfl, below_setRow HBW.out (Nat.le_succ _) _⟩
  · by_cases h34 : c = 34
    · have t62 : (((c.toNat : Nat) : Int) == 62) = false := ne_beq (d := 62) h62
      have t34 : (((c.toNat : Nat) : Int) == 34) = true := by rw [h34]; rfl
      have hr : R = ⟨9, el, at', seen, c, false⟩ := by rw [HRe.out]; simp [stepW, startW, textW, b47, b61, l47, l33, h62, h34]
      have HRf := Lib.hid hr
      clear hr HRe h62 h34
      go_upto_region 85 with (first | fail)
      have hGW : Blk (((w2.setCell ⟨w.heap.size, 0, none⟩ (.string ⟨#[86, 97, 108, 117, 101]⟩)).setCell ⟨w.heap.size, 4, none⟩ (.int .u8 ((c.toNat : Nat) : Int))).setCell ⟨w.heap.size, 5, none⟩ (.bool false)) w.heap.size 69 [.string ⟨#[86, 97, 108, 117, 101]⟩, .string (bs el), .string (bs at'), .string (bs seen), .int .u8 ((c.toNat : Nat) : Int), .bool false] := (blk_set (blk_set (blk_set HG.out 0 _) 4 _) 5 _)
      have hRW : Blk (((w2.setCell ⟨w.heap.size, 0, none⟩ (.string ⟨#[86, 97, 108, 117, 101]⟩)).setCell ⟨w.heap.size, 4, none⟩ (.int .u8 ((c.toNat : Nat) : Int))).setCell ⟨w.heap.size, 5, none⟩ (.bool false)) (w.heap.size + 1) 69 [.string ⟨#[]⟩, .string ⟨#[]⟩, .string ⟨#[]⟩, .string ⟨#[]⟩, .int .u8 0, .bool false] := (blk_far (blk_far (blk_far HR.out hne _) hne _) hne _)
      have hBW : Below w.heap.size w (((w2.setCell ⟨w.heap.size, 0, none⟩ (.string ⟨#[86, 97, 108, 117, 101]⟩)).setCell ⟨w.heap.size, 4, none⟩ (.int .u8 ((c.toNat : Nat) : Int))).setCell ⟨w.heap.size, 5, none⟩ (.bool false)) := (((HB.out.setCell (Nat.le_refl _) _).setCell (Nat.le_refl _) _).setCell (Nat.le_refl _) _)
      obtain ⟨W, hW⟩ : ∃ W, W = (((w2.setCell ⟨w.heap.size, 0, none⟩ (.string ⟨#[86, 97, 108, 117, 101]⟩)).setCell ⟨w.heap.size, 4, none⟩ (.int .u8 ((c.toNat : Nat) : Int))).setCell ⟨w.heap.size, 5, none⟩ (.bool false)) := ⟨_, rfl⟩
      rw [← hW] at hGW hRW hBW ⊢
      clear hW c0 c1 c2 c3 c4 c5 f0 f1 f2 f3 f4 f5
      have c0 := blk_cell hGW 0; have c1 := blk_cell hGW 1; have c2 := blk_cell hGW 2; have c3 := blk_cell hGW 3; have c4 := blk_cell hGW 4; have c5 := blk_cell hGW 5
      simp only [List.getElem?_cons_zero, List.getElem?_cons_succ] at c0 c1 c2 c3 c4 c5
      have HRW := Lib.hid hRW; have HBW := Lib.hid hBW
      clear hGW hRW hBW
      go_wp2_with (refine wpList_store_row rfl 69 (.tmp 4) (.tmp 232) rfl (w.heap.size + 1) #[_, _, _, _, _, _] rfl rfl 69 _ HRW.out (by kernel_rfl) rfl (by simp [Value.oneCell']) ?_)
      refine bodyPost_ret (v := .agg #[.string ⟨#[86, 97, 108, 117, 101]⟩, .string (bs el), .string (bs at'), .string (bs seen), .int .u8 ((c.toNat : Nat) : Int), .bool false]) (results_c Tryd.results33 _ _ _ ⟨w.heap.size + 1, 0, none⟩ _ rfl (load_walk _ (w.heap.size + 1) _ rfl ⟨_, HRW.out⟩)) rfl ?_
      exact ⟨by rw [HRf.out]; rfl, below_setRow HBW.out (Nat.le_succ _) _⟩
    · by_cases h39 : c = 39
      · have t62 : (((c.toNat : Nat) : Int) == 62) = false := ne_beq (d := 62) h62
        have t34 : (((c.toNat : Nat) : Int) == 34) = false := ne_beq (d := 34) h34
        have t39 : (((c.toNat : Nat) : Int) == 39) = true := by rw [h39]; rfl
        have hr : R = ⟨9, el, at', seen, c, false⟩ := by rw [HRe.out]; simp [stepW, startW, textW, b47, b61, l47, l33, h62, h34, h39]
        have HRf := Lib.hid hr
        clear hr HRe h62 h34 h39
        go_upto_region 85 with (first | fail)
        have hGW : Blk (((w2.setCell ⟨w.heap.size, 0, none⟩ (.string ⟨#[86, 97, 108, 117, 101]⟩)).setCell ⟨w.heap.size, 4, none⟩ (.int .u8 ((c.toNat : Nat) : Int))).setCell ⟨w.heap.size, 5, none⟩ (.bool false)) w.heap.size 69 [.string ⟨#[86, 97, 108, 117, 101]⟩, .string (bs el), .string (bs at'), .string (bs seen), .int .u8 ((c.toNat : Nat) : Int), .bool false] := (blk_set (blk_set (blk_set HG.out 0 _) 4 _) 5 _)
        have hRW : Blk (((w2.setCell ⟨w.heap.size, 0, none⟩ (.string ⟨#[86, 97, 108, 117, 101]⟩)).setCell ⟨w.heap.size, 4, none⟩ (.int .u8 ((c.toNat : Nat) : Int))).setCell ⟨w.heap.size, 5, none⟩ (.bool false)) (w.heap.size + 1) 69 [.string ⟨#[]⟩, .string ⟨#[]⟩, .string ⟨#[]⟩, .string ⟨#[]⟩, .int .u8 0, .bool false] := (blk_far (blk_far (blk_far HR.out hne _) hne _) hne _)
        have hBW : Below w.heap.size w (((w2.setCell ⟨w.heap.size, 0, none⟩ (.string ⟨#[86, 97, 108, 117, 101]⟩)).setCell ⟨w.heap.size, 4, none⟩ (.int .u8 ((c.toNat : Nat) : Int))).setCell ⟨w.heap.size, 5, none⟩ (.bool false)) := (((HB.out.setCell (Nat.le_refl _) _).setCell (Nat.le_refl _) _).setCell (Nat.le_refl _) _)
        obtain ⟨W, hW⟩ : ∃ W, W = (((w2.setCell ⟨w.heap.size, 0, none⟩ (.string ⟨#[86, 97, 108, 117, 101]⟩)).setCell ⟨w.heap.size, 4, none⟩ (.int .u8 ((c.toNat : Nat) : Int))).setCell ⟨w.heap.size, 5, none⟩ (.bool false)) := ⟨_, rfl⟩
        rw [← hW] at hGW hRW hBW ⊢
        clear hW c0 c1 c2 c3 c4 c5 f0 f1 f2 f3 f4 f5
        have c0 := blk_cell hGW 0; have c1 := blk_cell hGW 1; have c2 := blk_cell hGW 2; have c3 := blk_cell hGW 3; have c4 := blk_cell hGW 4; have c5 := blk_cell hGW 5
        simp only [List.getElem?_cons_zero, List.getElem?_cons_succ] at c0 c1 c2 c3 c4 c5
        have HRW := Lib.hid hRW; have HBW := Lib.hid hBW
        clear hGW hRW hBW
        go_wp2_with (refine wpList_store_row rfl 69 (.tmp 4) (.tmp 232) rfl (w.heap.size + 1) #[_, _, _, _, _, _] rfl rfl 69 _ HRW.out (by kernel_rfl) rfl (by simp [Value.oneCell']) ?_)
        refine bodyPost_ret (v := .agg #[.string ⟨#[86, 97, 108, 117, 101]⟩, .string (bs el), .string (bs at'), .string (bs seen), .int .u8 ((c.toNat : Nat) : Int), .bool false]) (results_c Tryd.results33 _ _ _ ⟨w.heap.size + 1, 0, none⟩ _ rfl (load_walk _ (w.heap.size + 1) _ rfl ⟨_, HRW.out⟩)) rfl ?_
        exact ⟨by rw [HRf.out]; rfl, below_setRow HBW.out (Nat.le_succ _) _⟩
      · cases hb : blankB c with
        | true =>
          have t62 : (((c.toNat : Nat) : Int) == 62) = false := ne_beq (d := 62) h62
          have t34 : (((c.toNat : Nat) : Int) == 34) = false := ne_beq (d := 34) h34
          have t39 : (((c.toNat : Nat) : Int) == 39) = false := ne_beq (d := 39) h39
          have hr : R = ⟨8, el, at', seen, q, f⟩ := by rw [HRe.out]; simp [stepW, startW, textW, b47, b61, l47, l33, h62, h34, h39, hb]
          have HRf := Lib.hid hr
          clear hr HRe h62 h34 h39
          go_upto_region 85 with (first | fail)
          have HRW := HR; have HBW := HB
          go_wp2_with (refine wpList_store_row rfl 69 (.tmp 4) (.tmp 232) rfl (w.heap.size + 1) #[_, _, _, _, _, _] rfl rfl 69 _ HRW.out (by kernel_rfl) rfl (by simp [Value.oneCell']) ?_)
          refine bodyPost_ret (v := .agg #[.string ⟨#[66, 101, 102, 111, 114, 101]⟩, .string (bs el), .string (bs at'), .string (bs seen), .int .u8 ((q.toNat : Nat) : Int), .bool f]) (results_c Tryd.results33 _ _ _ ⟨w.heap.size + 1, 0, none⟩ _ rfl (load_walk _ (w.heap.size + 1) _ rfl ⟨_, HRW.out⟩)) rfl ?_
          exact ⟨by rw [HRf.out]; rfl, below_setRow HBW.out (Nat.le_succ _) _⟩
        | false =>
          have t62 : (((c.toNat : Nat) : Int) == 62) = false := ne_beq (d := 62) h62
          have t34 : (((c.toNat : Nat) : Int) == 34) = false := ne_beq (d := 34) h34
          have t39 : (((c.toNat : Nat) : Int) == 39) = false := ne_beq (d := 39) h39
          have hr : R = ⟨10, el, at', seen, q, f⟩ := by rw [HRe.out]; simp [stepW, startW, textW, b47, b61, l47, l33, h62, h34, h39, hb]
          have HRf := Lib.hid hr
          clear hr HRe h62 h34 h39
          go_upto_region 85 with (first | fail)
          have hGW : Blk (w2.setCell ⟨w.heap.size, 0, none⟩ (.string ⟨#[66, 97, 114, 101]⟩)) w.heap.size 69 [.string ⟨#[66, 97, 114, 101]⟩, .string (bs el), .string (bs at'), .string (bs seen), .int .u8 ((q.toNat : Nat) : Int), .bool f] := (blk_set HG.out 0 _)
          have hRW : Blk (w2.setCell ⟨w.heap.size, 0, none⟩ (.string ⟨#[66, 97, 114, 101]⟩)) (w.heap.size + 1) 69 [.string ⟨#[]⟩, .string ⟨#[]⟩, .string ⟨#[]⟩, .string ⟨#[]⟩, .int .u8 0, .bool false] := (blk_far HR.out hne _)
          have hBW : Below w.heap.size w (w2.setCell ⟨w.heap.size, 0, none⟩ (.string ⟨#[66, 97, 114, 101]⟩)) := (HB.out.setCell (Nat.le_refl _) _)
          obtain ⟨W, hW⟩ : ∃ W, W = (w2.setCell ⟨w.heap.size, 0, none⟩ (.string ⟨#[66, 97, 114, 101]⟩)) := ⟨_, rfl⟩
          rw [← hW] at hGW hRW hBW ⊢
          clear hW c0 c1 c2 c3 c4 c5 f0 f1 f2 f3 f4 f5
          have c0 := blk_cell hGW 0; have c1 := blk_cell hGW 1; have c2 := blk_cell hGW 2; have c3 := blk_cell hGW 3; have c4 := blk_cell hGW 4; have c5 := blk_cell hGW 5
          simp only [List.getElem?_cons_zero, List.getElem?_cons_succ] at c0 c1 c2 c3 c4 c5
          have HRW := Lib.hid hRW; have HBW := Lib.hid hBW
          clear hGW hRW hBW
          go_wp2_with (refine wpList_store_row rfl 69 (.tmp 4) (.tmp 232) rfl (w.heap.size + 1) #[_, _, _, _, _, _] rfl rfl 69 _ HRW.out (by kernel_rfl) rfl (by simp [Value.oneCell']) ?_)
          refine bodyPost_ret (v := .agg #[.string ⟨#[66, 97, 114, 101]⟩, .string (bs el), .string (bs at'), .string (bs seen), .int .u8 ((q.toNat : Nat) : Int), .bool f]) (results_c Tryd.results33 _ _ _ ⟨w.heap.size + 1, 0, none⟩ _ rfl (load_walk _ (w.heap.size + 1) _ rfl ⟨_, HRW.out⟩)) rfl ?_
          exact ⟨by rw [HRf.out]; rfl, below_setRow HBW.out (Nat.le_succ _) _⟩
set_option maxHeartbeats 4000000 in
set_option maxRecDepth 100000 in
theorem stp_1 (el at' seen : Bs) (q c : UInt8) (f : Bool) (w : World) :
    Calls Tryd.prog 33 #[walkV ⟨1, el, at', seen, q, f⟩, u8v c] w fun e w' => e = .returned (walkV (stepW ⟨1, el, at', seen, q, f⟩ c)) ∧ Below w.heap.size w w' := by
  have H53 := Lib.hid (blank_one c)
  have H54 := Lib.hid (smallR_one c)
  have H55 := Lib.hid (letterR_any c)
  obtain ⟨R, hRe⟩ : ∃ R, R = stepW ⟨1, el, at', seen, q, f⟩ c := ⟨_, rfl⟩
  rw [← hRe]
  have HRe := Lib.hid hRe; clear hRe
  rw [show walkV ⟨1, el, at', seen, q, f⟩ = .agg #[.string ⟨#[79, 112, 101, 110]⟩, .string (bs el), .string (bs at'), .string (bs seen), .int .u8 ((q.toNat : Nat) : Int), .bool f] from rfl]
  unfold u8v at *
  go_enter Tryd.func33, Tryd.ntmps33
  have hcv := fun A B => conv_two w A B c
  go_upto_region 3 with (first | (go_at_call 53; refine (H53.out _).mono ?_; rintro e w1 ⟨rfl, rfl⟩) | (go_at_call 54; refine (H54.out _).mono ?_; rintro e w2 ⟨rfl, hb2⟩))
  obtain ⟨hG, hR, hB⟩ := two_blocks _ _ _ hb2
  have c0 := blk_cell hG 0; have c1 := blk_cell hG 1; have c2 := blk_cell hG 2; have c3 := blk_cell hG 3; have c4 := blk_cell hG 4; have c5 := blk_cell hG 5
  have f0 := blk_frozen hG 0; have f1 := blk_frozen hG 1; have f2 := blk_frozen hG 2; have f3 := blk_frozen hG 3; have f4 := blk_frozen hG 4; have f5 := blk_frozen hG 5
  simp only [List.getElem?_cons_zero, List.getElem?_cons_succ] at c0 c1 c2 c3 c4 c5
  have hne : w.heap.size + 1 ≠ w.heap.size := Nat.succ_ne_self _
  have HG := Lib.hid hG; have HR := Lib.hid hR; have HB := Lib.hid hB
  clear hb2 hcv hG hR hB H53 H54
  cases hl : letterB c with
  | true =>
    have hr : R = ⟨3, [smallB c], at', seen, q, f⟩ := by rw [HRe.out]; simp [stepW, startW, textW, b47, b61, l47, l33, hl]
    have HRf := Lib.hid hr
    clear hr HRe
    go_upto_region 18 with (first | (go_at_call 55; refine (H55.out _).mono ?_; rintro e w4 ⟨rfl, hw4⟩; replace hw4 := hw4.symm; subst hw4) | fail)
    have hGW : Blk ((w2.setCell ⟨w.heap.size, 0, none⟩ (.string ⟨#[78, 97, 109, 101]⟩)).setCell ⟨w.heap.size, 1, none⟩ (.string (bs [smallB c]))) w.heap.size 69 [.string ⟨#[78, 97, 109, 101]⟩, .string (bs [smallB c]), .string (bs at'), .string (bs seen), .int .u8 ((q.toNat : Nat) : Int), .bool f] := (blk_set (blk_set HG.out 0 _) 1 _)
    have hRW : Blk ((w2.setCell ⟨w.heap.size, 0, none⟩ (.string ⟨#[78, 97, 109, 101]⟩)).setCell ⟨w.heap.size, 1, none⟩ (.string (bs [smallB c]))) (w.heap.size + 1) 69 [.string ⟨#[]⟩, .string ⟨#[]⟩, .string ⟨#[]⟩, .string ⟨#[]⟩, .int .u8 0, .bool false] := (blk_far (blk_far HR.out hne _) hne _)
    have hBW : Below w.heap.size w ((w2.setCell ⟨w.heap.size, 0, none⟩ (.string ⟨#[78, 97, 109, 101]⟩)).setCell ⟨w.heap.size, 1, none⟩ (.string (bs [smallB c]))) := ((HB.out.setCell (Nat.le_refl _) _).setCell (Nat.le_refl _) _)
    obtain ⟨W, hW⟩ : ∃ W, W = ((w2.setCell ⟨w.heap.size, 0, none⟩ (.string ⟨#[78, 97, 109, 101]⟩)).setCell ⟨w.heap.size, 1, none⟩ (.string (bs [smallB c]))) := ⟨_, rfl⟩
    rw [← hW] at hGW hRW hBW ⊢
    clear hW c0 c1 c2 c3 c4 c5 f0 f1 f2 f3 f4 f5
    have c0 := blk_cell hGW 0; have c1 := blk_cell hGW 1; have c2 := blk_cell hGW 2; have c3 := blk_cell hGW 3; have c4 := blk_cell hGW 4; have c5 := blk_cell hGW 5
    simp only [List.getElem?_cons_zero, List.getElem?_cons_succ] at c0 c1 c2 c3 c4 c5
    have HRW := Lib.hid hRW; have HBW := Lib.hid hBW
    clear hGW hRW hBW
    go_wp2_with (refine wpList_store_row rfl 69 (.tmp 4) (.tmp 74) rfl (w.heap.size + 1) #[_, _, _, _, _, _] rfl rfl 69 _ HRW.out (by kernel_rfl) rfl (by simp [Value.oneCell']) ?_)
    refine bodyPost_ret (v := .agg #[.string ⟨#[78, 97, 109, 101]⟩, .string (bs [smallB c]), .string (bs at'), .string (bs seen), .int .u8 ((q.toNat : Nat) : Int), .bool f]) (results_c Tryd.results33 _ _ _ ⟨w.heap.size + 1, 0, none⟩ _ rfl (load_walk _ (w.heap.size + 1) _ rfl ⟨_, HRW.out⟩)) rfl ?_
    exact ⟨by rw [HRf.out]; rfl, below_setRow HBW.out (Nat.le_succ _) _⟩
  | false =>
    by_cases h47 : c = 47
    · have t47 : (((c.toNat : Nat) : Int) == 47) = true := by rw [h47]; rfl
      have hr : R = ⟨2, el, at', seen, q, f⟩ := by rw [HRe.out]; simp [stepW, startW, textW, b47, b61, l47, l33, hl, h47]
      have HRf := Lib.hid hr
      clear hr HRe h47
      go_upto_region 21 with (first | (go_at_call 55; refine (H55.out _).mono ?_; rintro e w4 ⟨rfl, hw4⟩; replace hw4 := hw4.symm; subst hw4) | fail)
      have hGW : Blk (w2.setCell ⟨w.heap.size, 0, none⟩ (.string ⟨#[67, 108, 111, 115, 101]⟩)) w.heap.size 69 [.string ⟨#[67, 108, 111, 115, 101]⟩, .string (bs el), .string (bs at'), .string (bs seen), .int .u8 ((q.toNat : Nat) : Int), .bool f] := (blk_set HG.out 0 _)
      have hRW : Blk (w2.setCell ⟨w.heap.size, 0, none⟩ (.string ⟨#[67, 108, 111, 115, 101]⟩)) (w.heap.size + 1) 69 [.string ⟨#[]⟩, .string ⟨#[]⟩, .string ⟨#[]⟩, .string ⟨#[]⟩, .int .u8 0, .bool false] := (blk_far HR.out hne _)
      have hBW : Below w.heap.size w (w2.setCell ⟨w.heap.size, 0, none⟩ (.string ⟨#[67, 108, 111, 115, 101]⟩)) := (HB.out.setCell (Nat.le_refl _) _)
      obtain ⟨W, hW⟩ : ∃ W, W = (w2.setCell ⟨w.heap.size, 0, none⟩ (.string ⟨#[67, 108, 111, 115, 101]⟩)) := ⟨_, rfl⟩
      rw [← hW] at hGW hRW hBW ⊢
      clear hW c0 c1 c2 c3 c4 c5 f0 f1 f2 f3 f4 f5
      have c0 := blk_cell hGW 0; have c1 := blk_cell hGW 1; have c2 := blk_cell hGW 2; have c3 := blk_cell hGW 3; have c4 := blk_cell hGW 4; have c5 := blk_cell hGW 5
      simp only [List.getElem?_cons_zero, List.getElem?_cons_succ] at c0 c1 c2 c3 c4 c5
      have HRW := Lib.hid hRW; have HBW := Lib.hid hBW
      clear hGW hRW hBW
      go_wp2_with (refine wpList_store_row rfl 69 (.tmp 4) (.tmp 78) rfl (w.heap.size + 1) #[_, _, _, _, _, _] rfl rfl 69 _ HRW.out (by kernel_rfl) rfl (by simp [Value.oneCell']) ?_)
      refine bodyPost_ret (v := .agg #[.string ⟨#[67, 108, 111, 115, 101]⟩, .string (bs el), .string (bs at'), .string (bs seen), .int .u8 ((q.toNat : Nat) : Int), .bool f]) (results_c Tryd.results33 _ _ _ ⟨w.heap.size + 1, 0, none⟩ _ rfl (load_walk _ (w.heap.size + 1) _ rfl ⟨_, HRW.out⟩)) rfl ?_
      exact ⟨by rw [HRf.out]; rfl, below_setRow HBW.out (Nat.le_succ _) _⟩
    · by_cases h33 : c = 33
      · have t47 : (((c.toNat : Nat) : Int) == 47) = false := ne_beq (d := 47) h47
        have t33 : (((c.toNat : Nat) : Int) == 33) = true := by rw [h33]; rfl
        have hr : R = ⟨11, el, at', [], q, f⟩ := by rw [HRe.out]; simp [stepW, startW, textW, b47, b61, l47, l33, hl, h47, h33]
        have HRf := Lib.hid hr
        clear hr HRe h47 h33
        go_upto_region 25 with (first | (go_at_call 55; refine (H55.out _).mono ?_; rintro e w4 ⟨rfl, hw4⟩; replace hw4 := hw4.symm; subst hw4) | fail)
        have hGW : Blk ((w2.setCell ⟨w.heap.size, 0, none⟩ (.string ⟨#[66, 97, 110, 103]⟩)).setCell ⟨w.heap.size, 3, none⟩ (.string ⟨#[]⟩)) w.heap.size 69 [.string ⟨#[66, 97, 110, 103]⟩, .string (bs el), .string (bs at'), .string ⟨#[]⟩, .int .u8 ((q.toNat : Nat) : Int), .bool f] := (blk_set (blk_set HG.out 0 _) 3 _)
        have hRW : Blk ((w2.setCell ⟨w.heap.size, 0, none⟩ (.string ⟨#[66, 97, 110, 103]⟩)).setCell ⟨w.heap.size, 3, none⟩ (.string ⟨#[]⟩)) (w.heap.size + 1) 69 [.string ⟨#[]⟩, .string ⟨#[]⟩, .string ⟨#[]⟩, .string ⟨#[]⟩, .int .u8 0, .bool false] := (blk_far (blk_far HR.out hne _) hne _)
        have hBW : Below w.heap.size w ((w2.setCell ⟨w.heap.size, 0, none⟩ (.string ⟨#[66, 97, 110, 103]⟩)).setCell ⟨w.heap.size, 3, none⟩ (.string ⟨#[]⟩)) := ((HB.out.setCell (Nat.le_refl _) _).setCell (Nat.le_refl _) _)
        obtain ⟨W, hW⟩ : ∃ W, W = ((w2.setCell ⟨w.heap.size, 0, none⟩ (.string ⟨#[66, 97, 110, 103]⟩)).setCell ⟨w.heap.size, 3, none⟩ (.string ⟨#[]⟩)) := ⟨_, rfl⟩
        rw [← hW] at hGW hRW hBW ⊢
        clear hW c0 c1 c2 c3 c4 c5 f0 f1 f2 f3 f4 f5
        have c0 := blk_cell hGW 0; have c1 := blk_cell hGW 1; have c2 := blk_cell hGW 2; have c3 := blk_cell hGW 3; have c4 := blk_cell hGW 4; have c5 := blk_cell hGW 5
        simp only [List.getElem?_cons_zero, List.getElem?_cons_succ] at c0 c1 c2 c3 c4 c5
        have HRW := Lib.hid hRW; have HBW := Lib.hid hBW
        clear hGW hRW hBW
        go_wp2_with (refine wpList_store_row rfl 69 (.tmp 4) (.tmp 83) rfl (w.heap.size + 1) #[_, _, _, _, _, _] rfl rfl 69 _ HRW.out (by kernel_rfl) rfl (by simp [Value.oneCell']) ?_)
        refine bodyPost_ret (v := .agg #[.string ⟨#[66, 97, 110, 103]⟩, .string (bs el), .string (bs at'), .string ⟨#[]⟩, .int .u8 ((q.toNat : Nat) : Int), .bool f]) (results_c Tryd.results33 _ _ _ ⟨w.heap.size + 1, 0, none⟩ _ rfl (load_walk _ (w.heap.size + 1) _ rfl ⟨_, HRW.out⟩)) rfl ?_
        exact ⟨by rw [HRf.out]; rfl, below_setRow HBW.out (Nat.le_succ _) _⟩
      · have t47 : (((c.toNat : Nat) : Int) == 47) = false := ne_beq (d := 47) h47
        have t33 : (((c.toNat : Nat) : Int) == 33) = false := ne_beq (d := 33) h33
        have hr : R = stepW ⟨0, el, at', seen, q, f⟩ c := by rw [HRe.out]; simp [stepW, startW, textW, hl, h47, h33]
        have HS : Hid (∀ w, Calls Tryd.prog 33 #[.agg #[.string ⟨#[84, 101, 120, 116]⟩, .string (bs el), .string (bs at'), .string (bs seen), .int .u8 ((q.toNat : Nat) : Int), .bool f], .int .u8 ((c.toNat : Nat) : Int)] w fun e w' => e = .returned (walkV R) ∧ Below w.heap.size w w') := by
          rw [hr]; exact stp_0 el at' seen q c f
        obtain ⟨X, hX⟩ : ∃ X : Array Value, X = (wcells R).toArray := ⟨_, rfl⟩
        have hX6 : X.size = 6 := by rw [hX]; rfl
        have hX1 : X.all (·.oneCell') = true := by rw [hX]; simp [wcells, u8v, Value.oneCell']
        have HS : Hid (∀ w, Calls Tryd.prog 33 #[.agg #[.string ⟨#[84, 101, 120, 116]⟩, .string (bs el), .string (bs at'), .string (bs seen), .int .u8 ((q.toNat : Nat) : Int), .bool f], .int .u8 ((c.toNat : Nat) : Int)] w fun e w' => e = .returned (.agg X) ∧ Below w.heap.size w w') := by rw [hX]; exact HS
        have HX := Lib.hid hX
        clear hr HRe hX h47 h33
        go_upto_region 27 with (go_at_call 55; refine (H55.out _).mono ?_; rintro e w4 ⟨rfl, hw4⟩; replace hw4 := hw4.symm; subst hw4)
        have hGW : Blk (w2.setCell ⟨w.heap.size, 0, none⟩ (.string ⟨#[84, 101, 120, 116]⟩)) w.heap.size 69 [.string ⟨#[84, 101, 120, 116]⟩, .string (bs el), .string (bs at'), .string (bs seen), .int .u8 ((q.toNat : Nat) : Int), .bool f] := (blk_set HG.out 0 _)
        have hRW : Blk (w2.setCell ⟨w.heap.size, 0, none⟩ (.string ⟨#[84, 101, 120, 116]⟩)) (w.heap.size + 1) 69 [.string ⟨#[]⟩, .string ⟨#[]⟩, .string ⟨#[]⟩, .string ⟨#[]⟩, .int .u8 0, .bool false] := (blk_far HR.out hne _)
        have hBW : Below w.heap.size w (w2.setCell ⟨w.heap.size, 0, none⟩ (.string ⟨#[84, 101, 120, 116]⟩)) := (HB.out.setCell (Nat.le_refl _) _)
        obtain ⟨W, hW⟩ : ∃ W, W = (w2.setCell ⟨w.heap.size, 0, none⟩ (.string ⟨#[84, 101, 120, 116]⟩)) := ⟨_, rfl⟩
        rw [← hW] at hGW hRW hBW ⊢
        clear hW c0 c1 c2 c3 c4 c5 f0 f1 f2 f3 f4 f5
        have c0 := blk_cell hGW 0; have c1 := blk_cell hGW 1; have c2 := blk_cell hGW 2; have c3 := blk_cell hGW 3; have c4 := blk_cell hGW 4; have c5 := blk_cell hGW 5
        simp only [List.getElem?_cons_zero, List.getElem?_cons_succ] at c0 c1 c2 c3 c4 c5
        have HRW := Lib.hid hRW; have HBW := Lib.hid hBW
        have hsW := hBW.size; have hlt := blk_lt hRW
        clear hGW hRW hBW
        go_wp2_with (first | (go_at_call 33; refine (HS.out _).mono ?_; rintro e w5 ⟨rfl, hb5⟩; have HB5 := Lib.hid (HBW.out.trans (hb5.mono hsW)); have HR5 := Lib.hid (blk_below HRW.out hb5 hlt); clear hb5) | (refine wpList_store_row rfl 69 (.tmp 4) (.tmp 87) rfl (w.heap.size + 1) X rfl rfl 69 _ HR5.out (by rw [hX6]; kernel_rfl) (by rw [hX6]; rfl) hX1 ?_))
        refine bodyPost_ret (v := .agg X) (results_c Tryd.results33 _ _ _ ⟨w.heap.size + 1, 0, none⟩ _ rfl (load_walk _ (w.heap.size + 1) _ hX6 ⟨_, HR5.out⟩)) rfl ?_
        exact ⟨by rw [HX.out]; rfl, below_setRow HB5.out (Nat.le_succ _) _⟩
end Go.Proofs.YthilkpjdfjjikaaDoor
