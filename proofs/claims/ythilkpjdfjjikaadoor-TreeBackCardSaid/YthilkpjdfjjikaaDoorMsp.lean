/-
  The program's machine: a byte.
-/
import Derived.Deep.CutBlock
import Derived.Deep.DeepCutAuto
import Derived.Test.YthilkpjdfjjikaaDoorMtg
set_option linter.unusedVariables false
set_option linter.unusedSimpArgs false
namespace Go.Proofs.YthilkpjdfjjikaaDoor
open Go.RowKit

set_option maxHeartbeats 4000000 in
set_option maxRecDepth 100000 in
theorem step0 (g : Nat) (nm at' : Bs) (q : UInt8) (f : Bool) (tl : Bs) (c : UInt8) (w : World) (h : IsMach w g ⟨0, nm, at', q, f, tl⟩) :
    Calls Tryd.prog 28 #[.pointer (some ⟨g, 0, none⟩), u8v c] w fun e w' => (∃ v, e = .returned v) ∧ IsMach w' g (textM ⟨0, nm, at', q, f, tl⟩ c) ∧ w.grownBy w' (some g) := by
  have c0 := blk_cell h 0
  have f0 := blk_frozen h 0
  simp only [mcells, List.getElem?_cons_zero, List.getElem?_cons_succ] at c0
  have H := Lib.hid h; clear h
  by_cases n60 : c = 60
  · subst n60
    rw [show textM ⟨0, nm, at', q, f, tl⟩ 60 = ⟨1, nm, at', q, f, tl⟩ from rfl, show u8v 60 = .int .u8 60 from rfl]
    go_enter Tryd.func28, Tryd.ntmps28
    go_wp2_with fail
    go_returns
    exact ⟨⟨_, rfl⟩, blk_set H.out 0 _, gb_set _ _ _ _⟩
  · rw [show textM ⟨0, nm, at', q, f, tl⟩ c = ⟨0, nm, at', q, f, tl⟩ by simp [textM, n60]]
    have t60 : ((c.toNat : Int) == (60 : Int)) = false := u8_ne (k := 60) 60 rfl n60
    unfold u8v
    go_enter Tryd.func28, Tryd.ntmps28
    go_wp2_with fail
    go_returns
    exact ⟨⟨_, rfl⟩, H.out, World.grownBy.refl _ _⟩

set_option maxHeartbeats 4000000 in
set_option maxRecDepth 100000 in
theorem open_any (g : Nat) (nm at' : Bs) (q : UInt8) (f : Bool) (tl : Bs) (c : UInt8) (w : World) (h : IsMach w g ⟨1, nm, at', q, f, tl⟩) :
    Calls Tryd.prog 40 #[.pointer (some ⟨g, 0, none⟩), u8v c] w fun e w' => (∃ v, e = .returned v) ∧ IsMach w' g (openM ⟨1, nm, at', q, f, tl⟩ c) ∧ w.grownBy w' (some g) := by
  have c0 := blk_cell h 0; have c5 := blk_cell h 5
  have f0 := blk_frozen h 0; have f5 := blk_frozen h 5
  simp only [mcells, List.getElem?_cons_zero, List.getElem?_cons_succ] at c0 c5
  have H41 : Hid (∀ w, Calls Tryd.prog 41 #[.int .u8 ((c.toNat : Nat) : Int)] w fun e w' => e = .returned (.bool (letterB c)) ∧ w' = w) := fun w => letter_any c w
  have H := Lib.hid h; clear h
  cases hb : letterB c with
  | true =>
    rw [hb] at H41
    rw [show openM ⟨1, nm, at', q, f, tl⟩ c = ⟨3, [smallB c], at', q, f, tl⟩ by simp [openM, hb]]
    have H43 : Hid (∀ w, Calls Tryd.prog 43 #[.int .u8 ((c.toNat : Nat) : Int)] w fun e w' => e = .returned (.string (bs [smallB c])) ∧ w' = w.alloc (.cells #[u8v (smallB c)] 5)) := fun w => small_any c w
    have hA := blk_alloc H.out (.cells #[u8v (smallB c)] 5)
    have ca := blk_cell hA 0; have cb := blk_cell hA 1
    have fa := blk_frozen hA 0; have fb := blk_frozen hA 1
    simp only [mcells, List.getElem?_cons_zero, List.getElem?_cons_succ] at ca cb
    have HA := Lib.hid hA; clear hA
    unfold u8v
    unfold u8v at ca cb fa fb H43
    go_enter Tryd.func40, Tryd.ntmps40
    go_wp2_with (first | (go_at_call 41; refine (H41.out _).mono ?_; rintro e w' ⟨rfl, rfl⟩) | (go_at_call 43; refine (H43.out _).mono ?_; rintro e w9 ⟨rfl, rfl⟩))
    go_returns
    exact ⟨⟨_, rfl⟩, blk_set (blk_set HA.out 0 _) 1 _, (gb_alloc _ _ _).trans ((gb_set _ _ _ _).trans (gb_set _ _ _ _))⟩
  | false =>
    rw [hb] at H41
    by_cases n47 : c = 47
    · subst n47
      rw [show openM ⟨1, nm, at', q, f, tl⟩ 47 = ⟨2, nm, at', q, f, tl⟩ from rfl, show u8v 47 = .int .u8 47 from rfl]
      go_enter Tryd.func40, Tryd.ntmps40
      go_wp2_with (go_at_call 41; refine (H41.out _).mono ?_; rintro e w' ⟨rfl, rfl⟩)
      go_returns
      exact ⟨⟨_, rfl⟩, blk_set H.out 0 _, gb_set _ _ _ _⟩
    · have t47 : ((c.toNat : Int) == (47 : Int)) = false := u8_ne (k := 47) 47 rfl n47
      by_cases n33 : c = 33
      · subst n33
        rw [show openM ⟨1, nm, at', q, f, tl⟩ 33 = ⟨11, nm, at', q, f, []⟩ from rfl, show u8v 33 = .int .u8 33 from rfl]
        go_enter Tryd.func40, Tryd.ntmps40
        go_wp2_with (go_at_call 41; refine (H41.out _).mono ?_; rintro e w' ⟨rfl, rfl⟩)
        go_returns
        exact ⟨⟨_, rfl⟩, blk_set (blk_set H.out 0 _) 5 _, (gb_set _ _ _ _).trans (gb_set _ _ _ _)⟩
      · have t33 : ((c.toNat : Int) == (33 : Int)) = false := u8_ne (k := 33) 33 rfl n33
        rw [show openM ⟨1, nm, at', q, f, tl⟩ c = textM ⟨0, nm, at', q, f, tl⟩ c by simp [openM, hb, n47, n33]]
        have H28 := Lib.hid (step0 g nm at' q f tl c (w.setCell ⟨g, 0, none⟩ (.int .i64 0)) (blk_set H.out 0 _))
        unfold u8v
        unfold u8v at H28
        go_enter Tryd.func40, Tryd.ntmps40
        go_wp2_with (go_at_call 41; refine (H41.out _).mono ?_; rintro e w' ⟨rfl, rfl⟩)
        refine H28.out.mono ?_
        rintro e w2 ⟨⟨v, rfl⟩, hm2, hg2⟩
        go_wp2_with fail
        go_returns
        exact ⟨⟨_, rfl⟩, hm2, (gb_set _ _ _ _).trans hg2⟩

set_option maxHeartbeats 4000000 in
set_option maxRecDepth 100000 in
theorem step11 (g : Nat) (nm at' : Bs) (q : UInt8) (f : Bool) (tl : Bs) (c : UInt8) (w : World) (h : IsMach w g ⟨11, nm, at', q, f, tl⟩) (hl : tl.length ≤ 1000000) :
    Calls Tryd.prog 28 #[.pointer (some ⟨g, 0, none⟩), u8v c] w fun e w' => (∃ v, e = .returned v) ∧ IsMach w' g (bangM ⟨11, nm, at', q, f, tl⟩ c) ∧ w.grownBy w' (some g) := by
  have c0 := blk_cell h 0
  simp only [mcells, List.getElem?_cons_zero, List.getElem?_cons_succ] at c0
  have H42 := Lib.hid (bang_any g _ c w h hl)
  clear h
  unfold u8v
  unfold u8v at H42
  go_enter Tryd.func28, Tryd.ntmps28
  go_wp2_with fail
  refine H42.out.mono ?_
  rintro e w2 ⟨⟨v, rfl⟩, hm2, hg2⟩
  go_wp2_with fail
  go_returns
  exact ⟨⟨_, rfl⟩, hm2, hg2⟩

set_option maxHeartbeats 4000000 in
set_option maxRecDepth 100000 in
theorem step2 (g : Nat) (nm at' : Bs) (q : UInt8) (f : Bool) (tl : Bs) (c : UInt8) (w : World) (h : IsMach w g ⟨2, nm, at', q, f, tl⟩) :
    Calls Tryd.prog 28 #[.pointer (some ⟨g, 0, none⟩), u8v c] w fun e w' => (∃ v, e = .returned v) ∧ IsMach w' g (closeM ⟨2, nm, at', q, f, tl⟩ c) ∧ w.grownBy w' (some g) := by
  have c0 := blk_cell h 0; have c5 := blk_cell h 5
  have f0 := blk_frozen h 0; have f5 := blk_frozen h 5
  simp only [mcells, List.getElem?_cons_zero, List.getElem?_cons_succ] at c0 c5
  have H41 : Hid (∀ w, Calls Tryd.prog 41 #[.int .u8 ((c.toNat : Nat) : Int)] w fun e w' => e = .returned (.bool (letterB c)) ∧ w' = w) := fun w => letter_any c w
  have H := Lib.hid h; clear h
  cases hb : letterB c with
  | true =>
    rw [hb] at H41
    rw [show closeM ⟨2, nm, at', q, f, tl⟩ c = ⟨4, nm, at', q, f, []⟩ by simp [closeM, hb]]
    unfold u8v
    go_enter Tryd.func28, Tryd.ntmps28
    go_wp2_with (go_at_call 41; refine (H41.out _).mono ?_; rintro e w' ⟨rfl, rfl⟩)
    go_returns
    exact ⟨⟨_, rfl⟩, blk_set (blk_set (blk_set H.out 0 _) 5 _) 0 _, ((gb_set _ _ _ _).trans (gb_set _ _ _ _)).trans (gb_set _ _ _ _)⟩
  | false =>
    rw [hb] at H41
    rw [show closeM ⟨2, nm, at', q, f, tl⟩ c = bangM ⟨11, nm, at', q, f, []⟩ c by simp [closeM, hb]]
    have H28 := Lib.hid (step11 g nm at' q f [] c ((w.setCell ⟨g, 0, none⟩ (.int .i64 11)).setCell ⟨g, 5, none⟩ (.string ⟨#[]⟩)) (blk_set (blk_set H.out 0 _) 5 _) (by decide))
    unfold u8v
    unfold u8v at H28
    go_enter Tryd.func28, Tryd.ntmps28
    go_wp2_with (go_at_call 41; refine (H41.out _).mono ?_; rintro e w' ⟨rfl, rfl⟩)
    refine H28.out.mono ?_
    rintro e w2 ⟨⟨v, rfl⟩, hm2, hg2⟩
    go_wp2_with fail
    go_returns
    exact ⟨⟨_, rfl⟩, hm2, ((gb_set _ _ _ _).trans (gb_set _ _ _ _)).trans hg2⟩

set_option maxHeartbeats 4000000 in
set_option maxRecDepth 100000 in
theorem step12 (g : Nat) (nm at' : Bs) (q : UInt8) (f : Bool) (tl : Bs) (c : UInt8) (w : World) (h : IsMach w g ⟨12, nm, at', q, f, tl⟩) (hl : nm.length + tl.length ≤ 1000000) :
    Calls Tryd.prog 28 #[.pointer (some ⟨g, 0, none⟩), u8v c] w fun e w' => (∃ v, e = .returned v) ∧ IsMach w' g (rawM ⟨12, nm, at', q, f, tl⟩ c) ∧ w.grownBy w' (some g) := by
  have c0 := blk_cell h 0; have c5 := blk_cell h 5
  have f5 := blk_frozen h 5
  simp only [mcells, List.getElem?_cons_zero, List.getElem?_cons_succ] at c0 c5
  have H := Lib.hid h; clear h
  have H43 : Hid (∀ w, Calls Tryd.prog 43 #[.int .u8 ((c.toNat : Nat) : Int)] w fun e w' => e = .returned (.string (bs [smallB c])) ∧ w' = w.alloc (.cells #[u8v (smallB c)] 5)) := fun w => small_any c w
  have hcat := bs_cat tl [smallB c]
  have hsz := cat_ok tl [smallB c] (by rw [List.length_singleton]; omega)
  have hA := blk_alloc H.out (.cells #[u8v (smallB c)] 5)
  have ca := blk_cell hA 5
  have fa := blk_frozen hA 5
  simp only [mcells, List.getElem?_cons_zero, List.getElem?_cons_succ] at ca
  obtain ⟨T, hT⟩ : ∃ T, T = tl ++ [smallB c] := ⟨_, rfl⟩
  have hTl : T.length = tl.length + 1 := by rw [hT, List.length_append]; rfl
  have hB : Blk ((w.alloc (.cells #[u8v (smallB c)] 5)).setCell ⟨g, 5, none⟩ (.string (bs T))).drew g 58 (mcells ⟨12, nm, at', q, f, T⟩) := blk_drew (blk_set hA 5 _)
  have HB := Lib.hid hB
  have HG := Lib.hid (show w.grownBy ((w.alloc (.cells #[u8v (smallB c)] 5)).setCell ⟨g, 5, none⟩ (.string (bs T))).drew (some g) from ((gb_alloc _ _ _).trans (gb_set _ _ _ _)).trans (gb_drew _ _))
  rw [← hT] at hcat
  have hraw : rawM ⟨12, nm, at', q, f, tl⟩ c = ⟨if Lib.hasSuffix T (60 :: 47 :: nm) then 4 else 12, nm, at', q, f, T.drop (T.length - 8)⟩ := by unfold rawM; rw [hT]
  rw [hraw]
  have H44 : Hid (∀ w, Calls Tryd.prog 44 #[.string (bs T), .string (bs (60 :: 47 :: nm))] w fun e w' => e = .returned (.bool (Lib.hasSuffix T (60 :: 47 :: nm))) ∧ w' = w) := fun w => Tryd.strings_HasSuffix (bs T) (bs (60 :: 47 :: nm)) w (by show T.length ≤ _; omega)
  obtain ⟨E, hE⟩ : ∃ E, E = Lib.hasSuffix T (60 :: 47 :: nm) := ⟨_, rfl⟩
  rw [← hE] at H44 ⊢
  have hcat2 : (⟨#[60, 47]⟩ : ByteArray) ++ bs nm = bs (60 :: 47 :: nm) := bs_cat [60, 47] nm
  have hsz2 : ¬ 9223372036854775807 < 2 + (bs nm).size := by rw [bs_size]; omega
  have HC2 := Lib.hid hcat2; have HS2 := Lib.hid hsz2
  obtain ⟨V, hV⟩ : ∃ V, V = T.drop (T.length - 8) := ⟨_, rfl⟩
  have hsl := fun w => str_from T (T.length - 8) (by omega) w
  rw [← hV] at hsl ⊢
  have hmx : max (0 : Int) ((T.length : Int) - 8) = ((T.length - 8 : Nat) : Int) := by omega
  have hX : (bs T).extract (max (0 : Int) ((tl.length : Int) + 1 - 8)).toNat (tl.length + 1) = bs V := by
    rw [Lib.extract_eq, hV]
    have e1 : (bs T).data.toList = T := rfl
    have e2 : (max (0 : Int) ((tl.length : Int) + 1 - 8)).toNat = T.length - 8 := by omega
    rw [e1, e2, List.take_of_length_le (by rw [List.length_drop]; omega)]
    rfl
  have HX := Lib.hid hX; clear hX
  have HSL := Lib.hid hsl; have HMX := Lib.hid hmx
  have HTz := Lib.hid (show (bs T).size = T.length from bs_size T)
  clear hA hB hraw hT hE hcat2 hsz2 hV hsl hmx
  unfold u8v
  go_enter Tryd.func28, Tryd.ntmps28
  go_upto_region 22 with fail
  go_cut [] (fun wx => IsMach wx g ⟨12, nm, at', q, f, T⟩ ∧ w.grownBy wx (some g))
  case first =>
    go_region_with (go_at_call 43; refine (H43.out _).mono ?_; rintro e w9 ⟨rfl, rfl⟩)
    all_goals go_wp2_with fail
    all_goals go_meet
    all_goals exact ⟨HB.out, HG.out⟩
  case rest =>
    obtain ⟨hm, hg⟩ := hcut
    have d0 := blk_cell hm 0; have d1 := blk_cell hm 1; have d5 := blk_cell hm 5
    have e0 := blk_frozen hm 0; have e5 := blk_frozen hm 5
    simp only [mcells, List.getElem?_cons_zero, List.getElem?_cons_succ] at d0 d1 d5
    have HM := Lib.hid hm; have HGG := Lib.hid hg
    have hcat2 := HC2.out; have hsz2 := HS2.out
    clear hcat hsz ca fa c0 c5 f5 hm hg
    go_wp2_with fail
    go_quiet ((go_at_call 44; exact quiet_left ((H44.out _).mono fun _ _ h => ⟨h.1, h.2.symm⟩)))
    clear hcat2 hsz2
    have hsl := HSL.out; have hmx := HMX.out; have htz := HTz.out
    cases E with
    | true =>
      go_wp2_with fail
      go_region
      all_goals go_wp2_with fail
      all_goals go_returns
      all_goals rw [HX.out]
      all_goals exact ⟨⟨_, rfl⟩, blk_drew (blk_set (blk_set (blk_drewN HM.out _) 0 _) 5 _), HGG.out.trans ((gb_drewN _ _ _).trans ((gb_set _ _ _ _).trans ((gb_set _ _ _ _).trans (gb_drew _ _))))⟩
    | false =>
      go_wp2_with fail
      go_region
      all_goals go_wp2_with fail
      all_goals go_returns
      all_goals rw [HX.out]
      all_goals exact ⟨⟨_, rfl⟩, blk_set (blk_drewN HM.out _) 5 _, HGG.out.trans ((gb_drewN _ _ _).trans (gb_set _ _ _ _))⟩

set_option maxHeartbeats 4000000 in
set_option maxRecDepth 100000 in
theorem step4 (g : Nat) (nm at' : Bs) (q : UInt8) (f : Bool) (tl : Bs) (c : UInt8) (w : World) (h : IsMach w g ⟨4, nm, at', q, f, tl⟩) :
    Calls Tryd.prog 28 #[.pointer (some ⟨g, 0, none⟩), u8v c] w fun e w' => (∃ v, e = .returned v) ∧ IsMach w' g (if c = 62 then ⟨0, nm, at', q, f, tl⟩ else ⟨4, nm, at', q, f, tl⟩) ∧ w.grownBy w' (some g) := by
  have c0 := blk_cell h 0
  have f0 := blk_frozen h 0
  simp only [mcells, List.getElem?_cons_zero, List.getElem?_cons_succ] at c0
  have H := Lib.hid h; clear h
  by_cases n62 : c = 62
  · subst n62
    rw [if_pos rfl, show u8v 62 = .int .u8 62 from rfl]
    go_enter Tryd.func28, Tryd.ntmps28
    go_wp2_with fail
    go_returns
    exact ⟨⟨_, rfl⟩, blk_set H.out 0 _, gb_set _ _ _ _⟩
  · rw [if_neg n62]
    have t62 : ((c.toNat : Int) == (62 : Int)) = false := u8_ne (k := 62) 62 rfl n62
    unfold u8v
    go_enter Tryd.func28, Tryd.ntmps28
    go_wp2_with fail
    go_returns
    exact ⟨⟨_, rfl⟩, H.out, World.grownBy.refl _ _⟩
set_option maxHeartbeats 4000000 in
set_option maxRecDepth 100000 in
theorem step9 (g : Nat) (nm at' : Bs) (q : UInt8) (f : Bool) (tl : Bs) (c : UInt8) (w : World) (h : IsMach w g ⟨9, nm, at', q, f, tl⟩) :
    Calls Tryd.prog 28 #[.pointer (some ⟨g, 0, none⟩), u8v c] w fun e w' => (∃ v, e = .returned v) ∧ IsMach w' g ⟨if c = q then 5 else 9, nm, at', q, true, tl⟩ ∧ w.grownBy w' (some g) := by
  have c0 := blk_cell h 0; have c3 := blk_cell h 3; have c4 := blk_cell h 4
  have f0 := blk_frozen h 0; have f4 := blk_frozen h 4
  simp only [mcells, List.getElem?_cons_zero, List.getElem?_cons_succ] at c0 c3 c4
  have H := Lib.hid h; clear h
  unfold u8v at c3 ⊢
  by_cases n62 : c = q
  · subst n62
    rw [if_pos rfl]
    go_enter Tryd.func28, Tryd.ntmps28
    go_wp2_with fail
    go_returns
    exact ⟨⟨_, rfl⟩, blk_set (blk_set H.out 0 _) 4 _, (gb_set _ _ _ _).trans (gb_set _ _ _ _)⟩
  · rw [if_neg n62]
    have t62 : ((c.toNat : Int) == (q.toNat : Int)) = false := u8_ne q rfl n62
    go_enter Tryd.func28, Tryd.ntmps28
    go_wp2_with fail
    go_returns
    exact ⟨⟨_, rfl⟩, blk_set H.out 4 _, gb_set _ _ _ _⟩
set_option maxHeartbeats 4000000 in
set_option maxRecDepth 100000 in
theorem step1 (g : Nat) (nm at' : Bs) (q : UInt8) (f : Bool) (tl : Bs) (c : UInt8) (w : World) (h : IsMach w g ⟨1, nm, at', q, f, tl⟩) :
    Calls Tryd.prog 28 #[.pointer (some ⟨g, 0, none⟩), u8v c] w fun e w' => (∃ v, e = .returned v) ∧ IsMach w' g (openM ⟨1, nm, at', q, f, tl⟩ c) ∧ w.grownBy w' (some g) := by
  have c0 := blk_cell h 0
  simp only [mcells, List.getElem?_cons_zero, List.getElem?_cons_succ] at c0
  have H40 := Lib.hid (open_any g nm at' q f tl c w h)
  clear h
  unfold u8v
  unfold u8v at H40
  go_enter Tryd.func28, Tryd.ntmps28
  go_wp2_with fail
  refine H40.out.mono ?_
  rintro e w2 ⟨⟨v, rfl⟩, hm2, hg2⟩
  go_wp2_with fail
  go_returns
  exact ⟨⟨_, rfl⟩, hm2, hg2⟩

set_option maxHeartbeats 4000000 in
set_option maxRecDepth 100000 in
theorem stept3 (g : Nat) (nm at' : Bs) (q : UInt8) (f : Bool) (tl : Bs) (c : UInt8) (w : World) (h : IsMach w g ⟨3, nm, at', q, f, tl⟩) (hl : nm.length + at'.length ≤ 1000000) :
    Calls Tryd.prog 28 #[.pointer (some ⟨g, 0, none⟩), u8v c] w fun e w' => (∃ v, e = .returned v) ∧ IsMach w' g (tagM ⟨3, nm, at', q, f, tl⟩ c) ∧ w.grownBy w' (some g) := by
  have c0 := blk_cell h 0
  simp only [mcells, List.getElem?_cons_zero, List.getElem?_cons_succ] at c0
  have H45 := Lib.hid (tag3 g nm at' q f tl c w h hl)
  clear h
  unfold u8v
  unfold u8v at H45
  go_enter Tryd.func28, Tryd.ntmps28
  go_wp2_with fail
  refine H45.out.mono ?_
  rintro e w2 ⟨⟨v, rfl⟩, hm2, hg2⟩
  go_wp2_with fail
  go_returns
  exact ⟨⟨_, rfl⟩, hm2, hg2⟩

set_option maxHeartbeats 4000000 in
set_option maxRecDepth 100000 in
theorem stept5 (g : Nat) (nm at' : Bs) (q : UInt8) (f : Bool) (tl : Bs) (c : UInt8) (w : World) (h : IsMach w g ⟨5, nm, at', q, f, tl⟩) (hl : nm.length + at'.length ≤ 1000000) :
    Calls Tryd.prog 28 #[.pointer (some ⟨g, 0, none⟩), u8v c] w fun e w' => (∃ v, e = .returned v) ∧ IsMach w' g (tagM ⟨5, nm, at', q, f, tl⟩ c) ∧ w.grownBy w' (some g) := by
  have c0 := blk_cell h 0
  simp only [mcells, List.getElem?_cons_zero, List.getElem?_cons_succ] at c0
  have H45 := Lib.hid (tag5 g nm at' q f tl c w h hl)
  clear h
  unfold u8v
  unfold u8v at H45
  go_enter Tryd.func28, Tryd.ntmps28
  go_wp2_with fail
  refine H45.out.mono ?_
  rintro e w2 ⟨⟨v, rfl⟩, hm2, hg2⟩
  go_wp2_with fail
  go_returns
  exact ⟨⟨_, rfl⟩, hm2, hg2⟩

set_option maxHeartbeats 4000000 in
set_option maxRecDepth 100000 in
theorem stept6 (g : Nat) (nm at' : Bs) (q : UInt8) (f : Bool) (tl : Bs) (c : UInt8) (w : World) (h : IsMach w g ⟨6, nm, at', q, f, tl⟩) (hl : nm.length + at'.length ≤ 1000000) :
    Calls Tryd.prog 28 #[.pointer (some ⟨g, 0, none⟩), u8v c] w fun e w' => (∃ v, e = .returned v) ∧ IsMach w' g (tagM ⟨6, nm, at', q, f, tl⟩ c) ∧ w.grownBy w' (some g) := by
  have c0 := blk_cell h 0
  simp only [mcells, List.getElem?_cons_zero, List.getElem?_cons_succ] at c0
  have H45 := Lib.hid (tag6 g nm at' q f tl c w h hl)
  clear h
  unfold u8v
  unfold u8v at H45
  go_enter Tryd.func28, Tryd.ntmps28
  go_wp2_with fail
  refine H45.out.mono ?_
  rintro e w2 ⟨⟨v, rfl⟩, hm2, hg2⟩
  go_wp2_with fail
  go_returns
  exact ⟨⟨_, rfl⟩, hm2, hg2⟩

set_option maxHeartbeats 4000000 in
set_option maxRecDepth 100000 in
theorem stept7 (g : Nat) (nm at' : Bs) (q : UInt8) (f : Bool) (tl : Bs) (c : UInt8) (w : World) (h : IsMach w g ⟨7, nm, at', q, f, tl⟩) (hl : nm.length + at'.length ≤ 1000000) :
    Calls Tryd.prog 28 #[.pointer (some ⟨g, 0, none⟩), u8v c] w fun e w' => (∃ v, e = .returned v) ∧ IsMach w' g (tagM ⟨7, nm, at', q, f, tl⟩ c) ∧ w.grownBy w' (some g) := by
  have c0 := blk_cell h 0
  simp only [mcells, List.getElem?_cons_zero, List.getElem?_cons_succ] at c0
  have H45 := Lib.hid (tag7 g nm at' q f tl c w h hl)
  clear h
  unfold u8v
  unfold u8v at H45
  go_enter Tryd.func28, Tryd.ntmps28
  go_wp2_with fail
  refine H45.out.mono ?_
  rintro e w2 ⟨⟨v, rfl⟩, hm2, hg2⟩
  go_wp2_with fail
  go_returns
  exact ⟨⟨_, rfl⟩, hm2, hg2⟩

set_option maxHeartbeats 4000000 in
set_option maxRecDepth 100000 in
theorem stept8 (g : Nat) (nm at' : Bs) (q : UInt8) (f : Bool) (tl : Bs) (c : UInt8) (w : World) (h : IsMach w g ⟨8, nm, at', q, f, tl⟩) (hl : nm.length + at'.length ≤ 1000000) :
    Calls Tryd.prog 28 #[.pointer (some ⟨g, 0, none⟩), u8v c] w fun e w' => (∃ v, e = .returned v) ∧ IsMach w' g (tagM ⟨8, nm, at', q, f, tl⟩ c) ∧ w.grownBy w' (some g) := by
  have c0 := blk_cell h 0
  simp only [mcells, List.getElem?_cons_zero, List.getElem?_cons_succ] at c0
  have H45 := Lib.hid (tag8 g nm at' q f tl c w h hl)
  clear h
  unfold u8v
  unfold u8v at H45
  go_enter Tryd.func28, Tryd.ntmps28
  go_wp2_with fail
  refine H45.out.mono ?_
  rintro e w2 ⟨⟨v, rfl⟩, hm2, hg2⟩
  go_wp2_with fail
  go_returns
  exact ⟨⟨_, rfl⟩, hm2, hg2⟩

set_option maxHeartbeats 4000000 in
set_option maxRecDepth 100000 in
theorem stept10 (g : Nat) (nm at' : Bs) (q : UInt8) (f : Bool) (tl : Bs) (c : UInt8) (w : World) (h : IsMach w g ⟨10, nm, at', q, f, tl⟩) (hl : nm.length + at'.length ≤ 1000000) :
    Calls Tryd.prog 28 #[.pointer (some ⟨g, 0, none⟩), u8v c] w fun e w' => (∃ v, e = .returned v) ∧ IsMach w' g (tagM ⟨10, nm, at', q, f, tl⟩ c) ∧ w.grownBy w' (some g) := by
  have c0 := blk_cell h 0
  simp only [mcells, List.getElem?_cons_zero, List.getElem?_cons_succ] at c0
  have H45 := Lib.hid (tag10 g nm at' q f tl c w h hl)
  clear h
  unfold u8v
  unfold u8v at H45
  go_enter Tryd.func28, Tryd.ntmps28
  go_wp2_with fail
  refine H45.out.mono ?_
  rintro e w2 ⟨⟨v, rfl⟩, hm2, hg2⟩
  go_wp2_with fail
  go_returns
  exact ⟨⟨_, rfl⟩, hm2, hg2⟩
theorem step_any (g : Nat) (m : Mach) (c : UInt8) (w : World) (h : IsMach w g m) (hst : m.st ≤ 12) (hl : m.name.length + m.attr.length + m.tail.length ≤ 1000000) :
    Calls Tryd.prog 28 #[.pointer (some ⟨g, 0, none⟩), u8v c] w fun e w' => (∃ v, e = .returned v) ∧ IsMach w' g (stepM m c) ∧ w.grownBy w' (some g) := by
  obtain ⟨st, nm, at', q, f, tl⟩ := m
  dsimp only at hst hl
  have hcases : st = 0 ∨ st = 1 ∨ st = 2 ∨ st = 3 ∨ st = 4 ∨ st = 5 ∨ st = 6 ∨ st = 7 ∨ st = 8 ∨ st = 9 ∨ st = 10 ∨ st = 11 ∨ st = 12 := by omega
  rcases hcases with rfl | rfl | rfl | rfl | rfl | rfl | rfl | rfl | rfl | rfl | rfl | rfl | rfl
  · exact step0 g nm at' q f tl c w h
  · exact step1 g nm at' q f tl c w h
  · exact step2 g nm at' q f tl c w h
  · exact stept3 g nm at' q f tl c w h (by omega)
  · exact step4 g nm at' q f tl c w h
  · exact stept5 g nm at' q f tl c w h (by omega)
  · exact stept6 g nm at' q f tl c w h (by omega)
  · exact stept7 g nm at' q f tl c w h (by omega)
  · exact stept8 g nm at' q f tl c w h (by omega)
  · exact step9 g nm at' q f tl c w h
  · exact stept10 g nm at' q f tl c w h (by omega)
  · exact step11 g nm at' q f tl c w h (by omega)
  · exact step12 g nm at' q f tl c w h (by omega)
end Go.Proofs.YthilkpjdfjjikaaDoor
