/-
  The document's tag of any words.
-/
import Derived.Test.YthilkpjdfjjikaaDoorRtg
namespace Go.Proofs.YthilkpjdfjjikaaDoor
open Go.RowKit

theorem tagL_other (s : Bs) (h : (wordsL s).length ≠ 1 ∧ (wordsL s).length ≠ 2 ∧ (wordsL s).length ≠ 4) : tagL s = none := by
  unfold tagL
  obtain ⟨L, hL⟩ : ∃ L, L = wordsL s := ⟨_, rfl⟩
  rw [← hL] at h ⊢
  match L, h with
  | [], _ => rfl
  | [_], h => exact absurd rfl h.1
  | [_, _], h => exact absurd rfl h.2.1
  | [_, _, _], _ => rfl
  | [_, _, _, _], h => exact absurd rfl h.2.2
  | _ :: _ :: _ :: _ :: _ :: _, _ => rfl
set_option maxHeartbeats 8000000 in
set_option maxRecDepth 100000 in
theorem tagR_n (s : Bs) (m : Nat) (hm : (wordsL s).length = m + 1) (hn : m ≠ 0 ∧ m ≠ 1 ∧ m ≠ 3) (w : World) (hl : s.length ≤ 800000) :
    Calls Tryd.prog 34 #[.string (bs s)] w (TagPost w (tagL s)) := by
  rw [tagL_other s (by omega)]
  have hle := words_le s
  have H57 := Lib.hid (fun W => wordsR_any s W (by omega))
  obtain ⟨L, hL⟩ : ∃ L, L = wordsL s := ⟨_, rfl⟩
  rw [← hL] at H57 hle hm
  rw [hm] at H57
  clear hL
  have hlast : L[m]? = some (L.getD m []) := by rw [List.getD_eq_getElem?_getD, List.getElem?_eq_getElem (by omega)]; rfl
  have hal : (L.getD m []).length ≤ 900000 := by
    have := hle (L.getD m []) (List.mem_of_getElem? hlast)
    omega
  have hstr : (strs L)[m]? = some (.string (bs (L.getD m []))) := strs_at L m (by omega)
  have H58 := Lib.hid (fun W => pathR_any (L.getD m []) W hal)
  obtain ⟨X, hX⟩ : ∃ X, X = bs (L.getD m []) := ⟨_, rfl⟩
  rw [← hX] at H58 hstr
  generalize pathL (L.getD m []) = PL at H58
  obtain ⟨n1, n2, n3⟩ := hn
  have HM := Lib.hid hm
  clear hX hal hlast hle hm
  have u0 : ((m : Int) + 1 == 0) = false := by rw [beq_eq_false_iff_ne]; omega
  have u1 : ((m : Int) + 1 == 1) = false := by rw [beq_eq_false_iff_ne]; omega
  have u2 : ((m : Int) + 1 == 2) = false := by rw [beq_eq_false_iff_ne]; omega
  have u4 : ((m : Int) + 1 == 4) = false := by rw [beq_eq_false_iff_ne]; omega
  go_enter Tryd.func34, Tryd.ntmps34
  go_upto_region 2 with (go_at_call 57; refine (H57.out _).mono ?_; rintro e w1 ⟨v, rfl, ho, hnb, hb1⟩; obtain ⟨A, cap, rfl, hA, _⟩ := ho.form (by omega))
  obtain ⟨hzb, hG⟩ := zero_block hb1
  have hbw : Below w.heap.size w w1 := ((Below.refl _ w).alloc (Nat.le_refl _) _).trans (hb1.mono (by simp))
  have hs1 := hbw.size
  have wcm := ho.cellAt m (by omega)
  rw [hstr] at wcm
  have HZ := Lib.hid hzb; have HB := Lib.hid hbw
  clear hb1 hzb hbw H57 ho hstr
  go_upto_region 9 with (go_at_call 58; refine (H58.out _).mono ?_; rintro e w2 ⟨v, ok, rfl, hpo, hb2⟩)
  have hz2 := blk_below HZ.out hb2 hG
  have hbA : Below w.heap.size w w2 := HB.out.trans (hb2.mono hs1)
  have hs2 := hb2.size
  have HZ2 := Lib.hid hz2; have HBA := Lib.hid hbA; have HPO := Lib.hid hpo
  clear hz2 hbA hpo hb2 H58 wcm
  cases PL with
  | none =>
    obtain rfl : ok = false := HPO.out
    go_wp2_with (refine wpList_store_row rfl 35 (.tmp 2) (.tmp 46) rfl w.heap.size #[_, _, _, _, _, _] rfl rfl 35 _ HZ2.out (by kernel_rfl) rfl (by simp [Value.oneCell']) ?_)
    refine bodyPost_ret (v := .tuple #[.agg (pcells 0 (.slice none 0 0) []), .bool false]) (results_ct Tryd.results34 _ _ _ ⟨w.heap.size, 0, none⟩ _ rfl (load_res _ w.heap.size _ rfl ⟨_, HZ2.out⟩)) rfl ?_
    exact ⟨⟨_, _, _, _, rfl, ⟨rfl, _, _, _, rfl⟩⟩, below_setRow (HBA.out) (Nat.le_refl _) _⟩
  | some P =>
    obtain ⟨rfl, hpown⟩ := (show ok = true ∧ w2.ownsRow w1.heap.size 9 1 v P.length (strs P) from HPO.out)
    obtain ⟨PA, pc, rfl, _, _⟩ := own_form hpown
    clear hpown HPO
    go_upto_region 12 with fail
    have hgP := blk_new w2 35 #[.int .i64 1, .int .i64 0, .string ⟨#[]⟩, .slice PA P.length pc, .string ⟨#[]⟩, .int .i64 0]
    have hzP : Blk (w2.alloc (.cells #[.int .i64 1, .int .i64 0, .string ⟨#[]⟩, .slice PA P.length pc, .string ⟨#[]⟩, .int .i64 0] 35)) w.heap.size 35 zero6 := blk_alloc HZ2.out _
    have hbP : Below w.heap.size w (w2.alloc (.cells #[.int .i64 1, .int .i64 0, .string ⟨#[]⟩, .slice PA P.length pc, .string ⟨#[]⟩, .int .i64 0] 35)) := HBA.out.alloc (Nat.le_trans hs1 hs2) _
    obtain ⟨W, hW⟩ : ∃ W, W = w2.alloc (.cells #[.int .i64 1, .int .i64 0, .string ⟨#[]⟩, .slice PA P.length pc, .string ⟨#[]⟩, .int .i64 0] 35) := ⟨_, rfl⟩
    rw [← hW] at hgP hzP hbP ⊢
    have p0 := blk_cell hgP 0; have p1 := blk_cell hgP 1; have p2 := blk_cell hgP 2; have p3 := blk_cell hgP 3; have p4 := blk_cell hgP 4; have p5 := blk_cell hgP 5
    simp only [List.getElem?_cons_zero, List.getElem?_cons_succ] at p0 p1 p2 p3 p4 p5
    have HZP := Lib.hid hzP; have HBP := Lib.hid hbP
    clear hgP hzP hbP hW
    go_wp2_with (refine wpList_store_row rfl 35 (.tmp 2) (.tmp 98) rfl w.heap.size #[_, _, _, _, _, _] rfl rfl 35 _ HZP.out (by kernel_rfl) rfl (by simp [Value.oneCell']) ?_)
    refine bodyPost_ret (v := .tuple #[.agg (pcells 1 (.slice PA P.length pc) []), .bool false]) (results_ct Tryd.results34 _ _ _ ⟨w.heap.size, 0, none⟩ _ rfl (load_res _ w.heap.size _ rfl ⟨_, HZP.out⟩)) rfl ?_
    exact ⟨⟨_, _, _, _, rfl, ⟨rfl, _, _, _, rfl⟩⟩, below_setRow (HBP.out) (Nat.le_refl _) _⟩
theorem tagR_any (s : Bs) (w : World) (hl : s.length ≤ 800000) : Calls Tryd.prog 34 #[.string (bs s)] w (TagPost w (tagL s)) := by
  obtain ⟨L, hL⟩ : ∃ L, L = wordsL s := ⟨_, rfl⟩
  match L, hL with
  | [], h => exact tagR_0 s h.symm w hl
  | [a], h => exact tagR_1 s a h.symm w hl
  | [a, b], h => exact tagR_2 s a b h.symm w hl
  | [a, b, c], h => exact tagR_n s 2 (by rw [← h]; rfl) (by omega) w hl
  | [a, b, c, d], h => exact tagR_4 s a b c d h.symm w hl
  | a :: b :: c :: d :: e :: r, h => exact tagR_n s (r.length + 4) (by rw [← h]; rfl) (by omega) w hl
end Go.Proofs.YthilkpjdfjjikaaDoor
