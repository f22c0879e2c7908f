/-
  The program's machine: a byte of a start tag.
-/
import Derived.Deep.RegionLaw
import Derived.Test.YthilkpjdfjjikaaDoorMchM
set_option linter.unusedVariables false
set_option linter.unusedSimpArgs false
namespace Go.Proofs.YthilkpjdfjjikaaDoor
open Go.RowKit

set_option maxHeartbeats 8000000 in
set_option maxRecDepth 100000 in
theorem tag3 (g : Nat) (nm at' : Bs) (q : UInt8) (f : Bool) (tl : Bs) (c : UInt8) (w : World) (h : IsMach w g ⟨3, nm, at', q, f, tl⟩) (hl : nm.length + at'.length ≤ 1000000) :
    Calls Tryd.prog 45 #[.pointer (some ⟨g, 0, none⟩), u8v c] w fun e w' => (∃ v, e = .returned v) ∧ IsMach w' g (tagM ⟨3, nm, at', q, f, tl⟩ c) ∧ w.grownBy w' (some g) := by
  have c0 := blk_cell h 0; have c1 := blk_cell h 1; have c2 := blk_cell h 2; have c3 := blk_cell h 3; have c4 := blk_cell h 4
  have f0 := blk_frozen h 0; have f1 := blk_frozen h 1; have f2 := blk_frozen h 2; have f3 := blk_frozen h 3; have f4 := blk_frozen h 4
  simp only [mcells, List.getElem?_cons_zero, List.getElem?_cons_succ] at c0 c1 c2 c3 c4
  have H66 : Hid (∀ w, Calls Tryd.prog 66 #[.int .u8 ((c.toNat : Nat) : Int)] w fun e w' => e = .returned (.bool (blankB c)) ∧ w' = w) := fun w => blank_any c w
  have H65 := Lib.hid (shut_any g _ w h)
  have H67 : Hid (Calls Tryd.prog 67 #[.pointer (some ⟨g, 0, none⟩), .int .u8 ((c.toNat : Nat) : Int)] w fun e w' => (∃ v, e = .returned v) ∧ IsMach w' g ⟨6, nm, [smallB c], q, f, tl⟩ ∧ w.grownBy w' (some g)) := begin_any g _ c w h
  have H := Lib.hid h; clear h
  by_cases n62 : c = 62
  · subst n62
    rw [show tagM ⟨3, nm, at', q, f, tl⟩ 62 = shutM ⟨3, nm, at', q, f, tl⟩ from rfl, show u8v 62 = .int .u8 62 from rfl]
    go_enter Tryd.func45, Tryd.ntmps45
    go_wp2_with (first | (go_at_call 66; refine (H66.out _).mono ?_; rintro e w' ⟨rfl, rfl⟩) | (go_at_call 65; refine H65.out.mono ?_; rintro e w' ⟨⟨v, rfl⟩, hm', hg'⟩) | (go_at_call 67; refine H67.out.mono ?_; rintro e w' ⟨⟨v, rfl⟩, hm', hg'⟩))
    go_returns
    exact ⟨⟨_, rfl⟩, hm', hg'⟩
  have t62 : ((c.toNat : Int) == (62 : Int)) = false := u8_ne (k := 62) 62 rfl n62
  cases hb : blankB c with
  | true =>
    rw [hb] at H66
    rw [show tagM ⟨3, nm, at', q, f, tl⟩ c = ⟨5, nm, at', q, f, tl⟩ by simp [tagM, n62, hb]]
    unfold u8v
    go_enter Tryd.func45, Tryd.ntmps45
    go_wp2_with (first | (go_at_call 66; refine (H66.out _).mono ?_; rintro e w' ⟨rfl, rfl⟩) | (go_at_call 65; refine H65.out.mono ?_; rintro e w' ⟨⟨v, rfl⟩, hm', hg'⟩) | (go_at_call 67; refine H67.out.mono ?_; rintro e w' ⟨⟨v, rfl⟩, hm', hg'⟩))
    go_returns
    exact ⟨⟨_, rfl⟩, blk_set H.out 0 _, gb_set _ _ _ _⟩
  | false =>
    rw [hb] at H66
    by_cases n47 : c = 47
    · subst n47
      rw [show tagM ⟨3, nm, at', q, f, tl⟩ 47 = ⟨5, nm, at', q, f, tl⟩ from rfl, show u8v 47 = .int .u8 47 from rfl]
      go_enter Tryd.func45, Tryd.ntmps45
      go_wp2_with (first | (go_at_call 66; refine (H66.out _).mono ?_; rintro e w' ⟨rfl, rfl⟩) | (go_at_call 65; refine H65.out.mono ?_; rintro e w' ⟨⟨v, rfl⟩, hm', hg'⟩) | (go_at_call 67; refine H67.out.mono ?_; rintro e w' ⟨⟨v, rfl⟩, hm', hg'⟩))
      go_returns
      exact ⟨⟨_, rfl⟩, blk_set H.out 0 _, gb_set _ _ _ _⟩
    · have t47 : ((c.toNat : Int) == (47 : Int)) = false := u8_ne (k := 47) 47 rfl n47
      rw [show tagM ⟨3, nm, at', q, f, tl⟩ c = ⟨3, nm ++ [smallB c], at', q, f, tl⟩ by simp [tagM, n62, hb, n47]]
      unfold u8v
      have H43 : Hid (∀ w, Calls Tryd.prog 43 #[.int .u8 ((c.toNat : Nat) : Int)] w fun e w' => e = .returned (.string (bs [smallB c])) ∧ w' = w.alloc (.cells #[u8v (smallB c)] 5)) := fun w => small_any c w
      have hcat := bs_cat nm [smallB c]
      have hsz := cat_ok nm [smallB c] (by rw [List.length_singleton]; omega)
      have hA := blk_alloc H.out (.cells #[u8v (smallB c)] 5)
      have ca := blk_cell hA 1
      have fa := blk_frozen hA 1
      simp only [mcells, List.getElem?_cons_zero, List.getElem?_cons_succ] at ca
      have HA := Lib.hid hA; clear hA
      go_enter Tryd.func45, Tryd.ntmps45
      go_wp2_with (first | (go_at_call 66; refine (H66.out _).mono ?_; rintro e w' ⟨rfl, rfl⟩) | (go_at_call 65; refine H65.out.mono ?_; rintro e w' ⟨⟨v, rfl⟩, hm', hg'⟩) | (go_at_call 67; refine H67.out.mono ?_; rintro e w' ⟨⟨v, rfl⟩, hm', hg'⟩))
      go_region_with (go_at_call 43; refine (H43.out _).mono ?_; rintro e w9 ⟨rfl, rfl⟩)
      all_goals go_wp2_with fail
      all_goals go_returns
      all_goals exact ⟨⟨_, rfl⟩, blk_drew (blk_set HA.out 1 _), ((gb_alloc _ _ _).trans (gb_set _ _ _ _)).trans (gb_drew _ _)⟩
set_option maxHeartbeats 8000000 in
set_option maxRecDepth 100000 in
theorem tag5 (g : Nat) (nm at' : Bs) (q : UInt8) (f : Bool) (tl : Bs) (c : UInt8) (w : World) (h : IsMach w g ⟨5, nm, at', q, f, tl⟩) (hl : nm.length + at'.length ≤ 1000000) :
    Calls Tryd.prog 45 #[.pointer (some ⟨g, 0, none⟩), u8v c] w fun e w' => (∃ v, e = .returned v) ∧ IsMach w' g (tagM ⟨5, nm, at', q, f, tl⟩ c) ∧ w.grownBy w' (some g) := by
  have c0 := blk_cell h 0; have c1 := blk_cell h 1; have c2 := blk_cell h 2; have c3 := blk_cell h 3; have c4 := blk_cell h 4
  have f0 := blk_frozen h 0; have f1 := blk_frozen h 1; have f2 := blk_frozen h 2; have f3 := blk_frozen h 3; have f4 := blk_frozen h 4
  simp only [mcells, List.getElem?_cons_zero, List.getElem?_cons_succ] at c0 c1 c2 c3 c4
  have H66 : Hid (∀ w, Calls Tryd.prog 66 #[.int .u8 ((c.toNat : Nat) : Int)] w fun e w' => e = .returned (.bool (blankB c)) ∧ w' = w) := fun w => blank_any c w
  have H65 := Lib.hid (shut_any g _ w h)
  have H67 : Hid (Calls Tryd.prog 67 #[.pointer (some ⟨g, 0, none⟩), .int .u8 ((c.toNat : Nat) : Int)] w fun e w' => (∃ v, e = .returned v) ∧ IsMach w' g ⟨6, nm, [smallB c], q, f, tl⟩ ∧ w.grownBy w' (some g)) := begin_any g _ c w h
  have H := Lib.hid h; clear h
  by_cases n62 : c = 62
  · subst n62
    rw [show tagM ⟨5, nm, at', q, f, tl⟩ 62 = shutM ⟨5, nm, at', q, f, tl⟩ from rfl, show u8v 62 = .int .u8 62 from rfl]
    go_enter Tryd.func45, Tryd.ntmps45
    go_wp2_with (first | (go_at_call 66; refine (H66.out _).mono ?_; rintro e w' ⟨rfl, rfl⟩) | (go_at_call 65; refine H65.out.mono ?_; rintro e w' ⟨⟨v, rfl⟩, hm', hg'⟩) | (go_at_call 67; refine H67.out.mono ?_; rintro e w' ⟨⟨v, rfl⟩, hm', hg'⟩))
    go_returns
    exact ⟨⟨_, rfl⟩, hm', hg'⟩
  have t62 : ((c.toNat : Int) == (62 : Int)) = false := u8_ne (k := 62) 62 rfl n62
  cases hb : blankB c with
  | true =>
    rw [hb] at H66
    rw [show tagM ⟨5, nm, at', q, f, tl⟩ c = ⟨5, nm, at', q, f, tl⟩ by simp [tagM, n62, hb]]
    unfold u8v
    go_enter Tryd.func45, Tryd.ntmps45
    go_wp2_with (first | (go_at_call 66; refine (H66.out _).mono ?_; rintro e w' ⟨rfl, rfl⟩) | (go_at_call 65; refine H65.out.mono ?_; rintro e w' ⟨⟨v, rfl⟩, hm', hg'⟩) | (go_at_call 67; refine H67.out.mono ?_; rintro e w' ⟨⟨v, rfl⟩, hm', hg'⟩))
    go_returns
    exact ⟨⟨_, rfl⟩, blk_set H.out 0 _, gb_set _ _ _ _⟩
  | false =>
    rw [hb] at H66
  
    by_cases n47 : c = 47
    · subst n47
      rw [show tagM ⟨5, nm, at', q, f, tl⟩ 47 = ⟨5, nm, at', q, f, tl⟩ from rfl, show u8v 47 = .int .u8 47 from rfl]
      go_enter Tryd.func45, Tryd.ntmps45
      go_wp2_with (first | (go_at_call 66; refine (H66.out _).mono ?_; rintro e w' ⟨rfl, rfl⟩) | (go_at_call 65; refine H65.out.mono ?_; rintro e w' ⟨⟨v, rfl⟩, hm', hg'⟩) | (go_at_call 67; refine H67.out.mono ?_; rintro e w' ⟨⟨v, rfl⟩, hm', hg'⟩))
      go_returns
      exact ⟨⟨_, rfl⟩, blk_set H.out 0 _, gb_set _ _ _ _⟩
    · have t47 : ((c.toNat : Int) == (47 : Int)) = false := u8_ne (k := 47) 47 rfl n47
      rw [show tagM ⟨5, nm, at', q, f, tl⟩ c = ⟨6, nm, [smallB c], q, f, tl⟩ by simp [tagM, n62, hb, n47]]
      unfold u8v
      go_enter Tryd.func45, Tryd.ntmps45
      go_wp2_with (first | (go_at_call 66; refine (H66.out _).mono ?_; rintro e w' ⟨rfl, rfl⟩) | (go_at_call 65; refine H65.out.mono ?_; rintro e w' ⟨⟨v, rfl⟩, hm', hg'⟩) | (go_at_call 67; refine H67.out.mono ?_; rintro e w' ⟨⟨v, rfl⟩, hm', hg'⟩))
      go_returns
      exact ⟨⟨_, rfl⟩, hm', hg'⟩
set_option maxHeartbeats 8000000 in
set_option maxRecDepth 100000 in
theorem tag6 (g : Nat) (nm at' : Bs) (q : UInt8) (f : Bool) (tl : Bs) (c : UInt8) (w : World) (h : IsMach w g ⟨6, nm, at', q, f, tl⟩) (hl : nm.length + at'.length ≤ 1000000) :
    Calls Tryd.prog 45 #[.pointer (some ⟨g, 0, none⟩), u8v c] w fun e w' => (∃ v, e = .returned v) ∧ IsMach w' g (tagM ⟨6, nm, at', q, f, tl⟩ c) ∧ w.grownBy w' (some g) := by
  have c0 := blk_cell h 0; have c1 := blk_cell h 1; have c2 := blk_cell h 2; have c3 := blk_cell h 3; have c4 := blk_cell h 4
  have f0 := blk_frozen h 0; have f1 := blk_frozen h 1; have f2 := blk_frozen h 2; have f3 := blk_frozen h 3; have f4 := blk_frozen h 4
  simp only [mcells, List.getElem?_cons_zero, List.getElem?_cons_succ] at c0 c1 c2 c3 c4
  have H66 : Hid (∀ w, Calls Tryd.prog 66 #[.int .u8 ((c.toNat : Nat) : Int)] w fun e w' => e = .returned (.bool (blankB c)) ∧ w' = w) := fun w => blank_any c w
  have H65 := Lib.hid (shut_any g _ w h)
  have H67 : Hid (Calls Tryd.prog 67 #[.pointer (some ⟨g, 0, none⟩), .int .u8 ((c.toNat : Nat) : Int)] w fun e w' => (∃ v, e = .returned v) ∧ IsMach w' g ⟨6, nm, [smallB c], q, f, tl⟩ ∧ w.grownBy w' (some g)) := begin_any g _ c w h
  have H := Lib.hid h; clear h
  by_cases n62 : c = 62
  · subst n62
    rw [show tagM ⟨6, nm, at', q, f, tl⟩ 62 = shutM ⟨6, nm, at', q, f, tl⟩ from rfl, show u8v 62 = .int .u8 62 from rfl]
    go_enter Tryd.func45, Tryd.ntmps45
    go_wp2_with (first | (go_at_call 66; refine (H66.out _).mono ?_; rintro e w' ⟨rfl, rfl⟩) | (go_at_call 65; refine H65.out.mono ?_; rintro e w' ⟨⟨v, rfl⟩, hm', hg'⟩) | (go_at_call 67; refine H67.out.mono ?_; rintro e w' ⟨⟨v, rfl⟩, hm', hg'⟩))
    go_returns
    exact ⟨⟨_, rfl⟩, hm', hg'⟩
  have t62 : ((c.toNat : Int) == (62 : Int)) = false := u8_ne (k := 62) 62 rfl n62
  cases hb : blankB c with
  | true =>
    rw [hb] at H66
    rw [show tagM ⟨6, nm, at', q, f, tl⟩ c = ⟨7, nm, at', q, f, tl⟩ by simp [tagM, n62, hb]]
    unfold u8v
    go_enter Tryd.func45, Tryd.ntmps45
    go_wp2_with (first | (go_at_call 66; refine (H66.out _).mono ?_; rintro e w' ⟨rfl, rfl⟩) | (go_at_call 65; refine H65.out.mono ?_; rintro e w' ⟨⟨v, rfl⟩, hm', hg'⟩) | (go_at_call 67; refine H67.out.mono ?_; rintro e w' ⟨⟨v, rfl⟩, hm', hg'⟩))
    go_returns
    exact ⟨⟨_, rfl⟩, blk_set H.out 0 _, gb_set _ _ _ _⟩
  | false =>
    rw [hb] at H66
  
    by_cases n47 : c = 47
    · subst n47
      rw [show tagM ⟨6, nm, at', q, f, tl⟩ 47 = ⟨5, nm, at', q, f, tl⟩ from rfl, show u8v 47 = .int .u8 47 from rfl]
      go_enter Tryd.func45, Tryd.ntmps45
      go_wp2_with (first | (go_at_call 66; refine (H66.out _).mono ?_; rintro e w' ⟨rfl, rfl⟩) | (go_at_call 65; refine H65.out.mono ?_; rintro e w' ⟨⟨v, rfl⟩, hm', hg'⟩) | (go_at_call 67; refine H67.out.mono ?_; rintro e w' ⟨⟨v, rfl⟩, hm', hg'⟩))
      go_returns
      exact ⟨⟨_, rfl⟩, blk_set H.out 0 _, gb_set _ _ _ _⟩
    · have t47 : ((c.toNat : Int) == (47 : Int)) = false := u8_ne (k := 47) 47 rfl n47
      by_cases n61 : c = 61
      · subst n61
        rw [show tagM ⟨6, nm, at', q, f, tl⟩ 61 = ⟨8, nm, at', q, f, tl⟩ from rfl, show u8v 61 = .int .u8 61 from rfl]
        go_enter Tryd.func45, Tryd.ntmps45
        go_wp2_with (first | (go_at_call 66; refine (H66.out _).mono ?_; rintro e w' ⟨rfl, rfl⟩) | (go_at_call 65; refine H65.out.mono ?_; rintro e w' ⟨⟨v, rfl⟩, hm', hg'⟩) | (go_at_call 67; refine H67.out.mono ?_; rintro e w' ⟨⟨v, rfl⟩, hm', hg'⟩))
        go_returns
        exact ⟨⟨_, rfl⟩, blk_set H.out 0 _, gb_set _ _ _ _⟩
      · have t61 : ((c.toNat : Int) == (61 : Int)) = false := u8_ne (k := 61) 61 rfl n61
        rw [show tagM ⟨6, nm, at', q, f, tl⟩ c = ⟨6, nm, at' ++ [smallB c], q, f, tl⟩ by simp [tagM, n62, hb, n47, n61]]
        unfold u8v
        have H43 : Hid (∀ w, Calls Tryd.prog 43 #[.int .u8 ((c.toNat : Nat) : Int)] w fun e w' => e = .returned (.string (bs [smallB c])) ∧ w' = w.alloc (.cells #[u8v (smallB c)] 5)) := fun w => small_any c w
        have hcat := bs_cat at' [smallB c]
        have hsz := cat_ok at' [smallB c] (by rw [List.length_singleton]; omega)
        have hA := blk_alloc H.out (.cells #[u8v (smallB c)] 5)
        have ca := blk_cell hA 2
        have fa := blk_frozen hA 2
        simp only [mcells, List.getElem?_cons_zero, List.getElem?_cons_succ] at ca
        have HA := Lib.hid hA; clear hA
        go_enter Tryd.func45, Tryd.ntmps45
        go_wp2_with (first | (go_at_call 66; refine (H66.out _).mono ?_; rintro e w' ⟨rfl, rfl⟩) | (go_at_call 65; refine H65.out.mono ?_; rintro e w' ⟨⟨v, rfl⟩, hm', hg'⟩) | (go_at_call 67; refine H67.out.mono ?_; rintro e w' ⟨⟨v, rfl⟩, hm', hg'⟩))
        go_region_with (go_at_call 43; refine (H43.out _).mono ?_; rintro e w9 ⟨rfl, rfl⟩)
        all_goals go_wp2_with fail
        all_goals go_returns
        all_goals exact ⟨⟨_, rfl⟩, blk_drew (blk_set HA.out 2 _), ((gb_alloc _ _ _).trans (gb_set _ _ _ _)).trans (gb_drew _ _)⟩
set_option maxHeartbeats 8000000 in
set_option maxRecDepth 100000 in
theorem tag7 (g : Nat) (nm at' : Bs) (q : UInt8) (f : Bool) (tl : Bs) (c : UInt8) (w : World) (h : IsMach w g ⟨7, nm, at', q, f, tl⟩) (hl : nm.length + at'.length ≤ 1000000) :
    Calls Tryd.prog 45 #[.pointer (some ⟨g, 0, none⟩), u8v c] w fun e w' => (∃ v, e = .returned v) ∧ IsMach w' g (tagM ⟨7, nm, at', q, f, tl⟩ c) ∧ w.grownBy w' (some g) := by
  have c0 := blk_cell h 0; have c1 := blk_cell h 1; have c2 := blk_cell h 2; have c3 := blk_cell h 3; have c4 := blk_cell h 4
  have f0 := blk_frozen h 0; have f1 := blk_frozen h 1; have f2 := blk_frozen h 2; have f3 := blk_frozen h 3; have f4 := blk_frozen h 4
  simp only [mcells, List.getElem?_cons_zero, List.getElem?_cons_succ] at c0 c1 c2 c3 c4
  have H66 : Hid (∀ w, Calls Tryd.prog 66 #[.int .u8 ((c.toNat : Nat) : Int)] w fun e w' => e = .returned (.bool (blankB c)) ∧ w' = w) := fun w => blank_any c w
  have H65 := Lib.hid (shut_any g _ w h)
  have H67 : Hid (Calls Tryd.prog 67 #[.pointer (some ⟨g, 0, none⟩), .int .u8 ((c.toNat : Nat) : Int)] w fun e w' => (∃ v, e = .returned v) ∧ IsMach w' g ⟨6, nm, [smallB c], q, f, tl⟩ ∧ w.grownBy w' (some g)) := begin_any g _ c w h
  have H := Lib.hid h; clear h
  by_cases n62 : c = 62
  · subst n62
    rw [show tagM ⟨7, nm, at', q, f, tl⟩ 62 = shutM ⟨7, nm, at', q, f, tl⟩ from rfl, show u8v 62 = .int .u8 62 from rfl]
    go_enter Tryd.func45, Tryd.ntmps45
    go_wp2_with (first | (go_at_call 66; refine (H66.out _).mono ?_; rintro e w' ⟨rfl, rfl⟩) | (go_at_call 65; refine H65.out.mono ?_; rintro e w' ⟨⟨v, rfl⟩, hm', hg'⟩) | (go_at_call 67; refine H67.out.mono ?_; rintro e w' ⟨⟨v, rfl⟩, hm', hg'⟩))
    go_returns
    exact ⟨⟨_, rfl⟩, hm', hg'⟩
  have t62 : ((c.toNat : Int) == (62 : Int)) = false := u8_ne (k := 62) 62 rfl n62
  cases hb : blankB c with
  | true =>
    rw [hb] at H66
    rw [show tagM ⟨7, nm, at', q, f, tl⟩ c = ⟨7, nm, at', q, f, tl⟩ by simp [tagM, n62, hb]]
    unfold u8v
    go_enter Tryd.func45, Tryd.ntmps45
    go_wp2_with (first | (go_at_call 66; refine (H66.out _).mono ?_; rintro e w' ⟨rfl, rfl⟩) | (go_at_call 65; refine H65.out.mono ?_; rintro e w' ⟨⟨v, rfl⟩, hm', hg'⟩) | (go_at_call 67; refine H67.out.mono ?_; rintro e w' ⟨⟨v, rfl⟩, hm', hg'⟩))
    go_returns
    exact ⟨⟨_, rfl⟩, H.out, World.grownBy.refl _ _⟩
  | false =>
    rw [hb] at H66
  
    by_cases n47 : c = 47
    · subst n47
      rw [show tagM ⟨7, nm, at', q, f, tl⟩ 47 = ⟨5, nm, at', q, f, tl⟩ from rfl, show u8v 47 = .int .u8 47 from rfl]
      go_enter Tryd.func45, Tryd.ntmps45
      go_wp2_with (first | (go_at_call 66; refine (H66.out _).mono ?_; rintro e w' ⟨rfl, rfl⟩) | (go_at_call 65; refine H65.out.mono ?_; rintro e w' ⟨⟨v, rfl⟩, hm', hg'⟩) | (go_at_call 67; refine H67.out.mono ?_; rintro e w' ⟨⟨v, rfl⟩, hm', hg'⟩))
      go_returns
      exact ⟨⟨_, rfl⟩, blk_set H.out 0 _, gb_set _ _ _ _⟩
    · have t47 : ((c.toNat : Int) == (47 : Int)) = false := u8_ne (k := 47) 47 rfl n47
      by_cases n61 : c = 61
      · subst n61
        rw [show tagM ⟨7, nm, at', q, f, tl⟩ 61 = ⟨8, nm, at', q, f, tl⟩ from rfl, show u8v 61 = .int .u8 61 from rfl]
        go_enter Tryd.func45, Tryd.ntmps45
        go_wp2_with (first | (go_at_call 66; refine (H66.out _).mono ?_; rintro e w' ⟨rfl, rfl⟩) | (go_at_call 65; refine H65.out.mono ?_; rintro e w' ⟨⟨v, rfl⟩, hm', hg'⟩) | (go_at_call 67; refine H67.out.mono ?_; rintro e w' ⟨⟨v, rfl⟩, hm', hg'⟩))
        go_returns
        exact ⟨⟨_, rfl⟩, blk_set H.out 0 _, gb_set _ _ _ _⟩
      · have t61 : ((c.toNat : Int) == (61 : Int)) = false := u8_ne (k := 61) 61 rfl n61
        rw [show tagM ⟨7, nm, at', q, f, tl⟩ c = ⟨6, nm, [smallB c], q, f, tl⟩ by simp [tagM, n62, hb, n47, n61]]
        unfold u8v
        go_enter Tryd.func45, Tryd.ntmps45
        go_wp2_with (first | (go_at_call 66; refine (H66.out _).mono ?_; rintro e w' ⟨rfl, rfl⟩) | (go_at_call 65; refine H65.out.mono ?_; rintro e w' ⟨⟨v, rfl⟩, hm', hg'⟩) | (go_at_call 67; refine H67.out.mono ?_; rintro e w' ⟨⟨v, rfl⟩, hm', hg'⟩))
        go_returns
        exact ⟨⟨_, rfl⟩, hm', hg'⟩
set_option maxHeartbeats 8000000 in
set_option maxRecDepth 100000 in
theorem tag8 (g : Nat) (nm at' : Bs) (q : UInt8) (f : Bool) (tl : Bs) (c : UInt8) (w : World) (h : IsMach w g ⟨8, nm, at', q, f, tl⟩) (hl : nm.length + at'.length ≤ 1000000) :
    Calls Tryd.prog 45 #[.pointer (some ⟨g, 0, none⟩), u8v c] w fun e w' => (∃ v, e = .returned v) ∧ IsMach w' g (tagM ⟨8, nm, at', q, f, tl⟩ c) ∧ w.grownBy w' (some g) := by
  have c0 := blk_cell h 0; have c1 := blk_cell h 1; have c2 := blk_cell h 2; have c3 := blk_cell h 3; have c4 := blk_cell h 4
  have f0 := blk_frozen h 0; have f1 := blk_frozen h 1; have f2 := blk_frozen h 2; have f3 := blk_frozen h 3; have f4 := blk_frozen h 4
  simp only [mcells, List.getElem?_cons_zero, List.getElem?_cons_succ] at c0 c1 c2 c3 c4
  have H66 : Hid (∀ w, Calls Tryd.prog 66 #[.int .u8 ((c.toNat : Nat) : Int)] w fun e w' => e = .returned (.bool (blankB c)) ∧ w' = w) := fun w => blank_any c w
  have H65 := Lib.hid (shut_any g _ w h)
  have H67 : Hid (Calls Tryd.prog 67 #[.pointer (some ⟨g, 0, none⟩), .int .u8 ((c.toNat : Nat) : Int)] w fun e w' => (∃ v, e = .returned v) ∧ IsMach w' g ⟨6, nm, [smallB c], q, f, tl⟩ ∧ w.grownBy w' (some g)) := begin_any g _ c w h
  have H := Lib.hid h; clear h
  by_cases n62 : c = 62
  · subst n62
    rw [show tagM ⟨8, nm, at', q, f, tl⟩ 62 = shutM ⟨8, nm, at', q, f, tl⟩ from rfl, show u8v 62 = .int .u8 62 from rfl]
    go_enter Tryd.func45, Tryd.ntmps45
    go_wp2_with (first | (go_at_call 66; refine (H66.out _).mono ?_; rintro e w' ⟨rfl, rfl⟩) | (go_at_call 65; refine H65.out.mono ?_; rintro e w' ⟨⟨v, rfl⟩, hm', hg'⟩) | (go_at_call 67; refine H67.out.mono ?_; rintro e w' ⟨⟨v, rfl⟩, hm', hg'⟩))
    go_returns
    exact ⟨⟨_, rfl⟩, hm', hg'⟩
  have t62 : ((c.toNat : Int) == (62 : Int)) = false := u8_ne (k := 62) 62 rfl n62
  cases hb : blankB c with
  | true =>
    rw [hb] at H66
    rw [show tagM ⟨8, nm, at', q, f, tl⟩ c = ⟨8, nm, at', q, f, tl⟩ by simp [tagM, n62, hb]]
    unfold u8v
    go_enter Tryd.func45, Tryd.ntmps45
    go_wp2_with (first | (go_at_call 66; refine (H66.out _).mono ?_; rintro e w' ⟨rfl, rfl⟩) | (go_at_call 65; refine H65.out.mono ?_; rintro e w' ⟨⟨v, rfl⟩, hm', hg'⟩) | (go_at_call 67; refine H67.out.mono ?_; rintro e w' ⟨⟨v, rfl⟩, hm', hg'⟩))
    go_returns
    exact ⟨⟨_, rfl⟩, H.out, World.grownBy.refl _ _⟩
  | false =>
    rw [hb] at H66
  
    by_cases n34 : c = 34
    · subst n34
      rw [show tagM ⟨8, nm, at', q, f, tl⟩ 34 = ⟨9, nm, at', 34, false, tl⟩ from rfl, show u8v 34 = .int .u8 34 from rfl]
      go_enter Tryd.func45, Tryd.ntmps45
      go_wp2_with (first | (go_at_call 66; refine (H66.out _).mono ?_; rintro e w' ⟨rfl, rfl⟩) | (go_at_call 65; refine H65.out.mono ?_; rintro e w' ⟨⟨v, rfl⟩, hm', hg'⟩) | (go_at_call 67; refine H67.out.mono ?_; rintro e w' ⟨⟨v, rfl⟩, hm', hg'⟩))
      go_returns
      exact ⟨⟨_, rfl⟩, blk_set (blk_set (blk_set (blk_set H.out 0 _) 0 _) 3 _) 4 _, (((gb_set _ _ _ _).trans (gb_set _ _ _ _)).trans (gb_set _ _ _ _)).trans (gb_set _ _ _ _)⟩
    · by_cases n39 : c = 39
      · subst n39
        rw [show tagM ⟨8, nm, at', q, f, tl⟩ 39 = ⟨9, nm, at', 39, false, tl⟩ from rfl, show u8v 39 = .int .u8 39 from rfl]
        go_enter Tryd.func45, Tryd.ntmps45
        go_wp2_with (first | (go_at_call 66; refine (H66.out _).mono ?_; rintro e w' ⟨rfl, rfl⟩) | (go_at_call 65; refine H65.out.mono ?_; rintro e w' ⟨⟨v, rfl⟩, hm', hg'⟩) | (go_at_call 67; refine H67.out.mono ?_; rintro e w' ⟨⟨v, rfl⟩, hm', hg'⟩))
        go_returns
        exact ⟨⟨_, rfl⟩, blk_set (blk_set (blk_set (blk_set H.out 0 _) 0 _) 3 _) 4 _, (((gb_set _ _ _ _).trans (gb_set _ _ _ _)).trans (gb_set _ _ _ _)).trans (gb_set _ _ _ _)⟩
      · have t34 : ((c.toNat : Int) == (34 : Int)) = false := u8_ne (k := 34) 34 rfl n34
        have t39 : ((c.toNat : Int) == (39 : Int)) = false := u8_ne (k := 39) 39 rfl n39
        rw [show tagM ⟨8, nm, at', q, f, tl⟩ c = ⟨10, nm, at', q, f, tl⟩ by simp [tagM, n62, hb, n34, n39]]
        unfold u8v
        go_enter Tryd.func45, Tryd.ntmps45
        go_wp2_with (first | (go_at_call 66; refine (H66.out _).mono ?_; rintro e w' ⟨rfl, rfl⟩) | (go_at_call 65; refine H65.out.mono ?_; rintro e w' ⟨⟨v, rfl⟩, hm', hg'⟩) | (go_at_call 67; refine H67.out.mono ?_; rintro e w' ⟨⟨v, rfl⟩, hm', hg'⟩))
        go_returns
        exact ⟨⟨_, rfl⟩, blk_set H.out 0 _, gb_set _ _ _ _⟩
set_option maxHeartbeats 8000000 in
set_option maxRecDepth 100000 in
theorem tag10 (g : Nat) (nm at' : Bs) (q : UInt8) (f : Bool) (tl : Bs) (c : UInt8) (w : World) (h : IsMach w g ⟨10, nm, at', q, f, tl⟩) (hl : nm.length + at'.length ≤ 1000000) :
    Calls Tryd.prog 45 #[.pointer (some ⟨g, 0, none⟩), u8v c] w fun e w' => (∃ v, e = .returned v) ∧ IsMach w' g (tagM ⟨10, nm, at', q, f, tl⟩ c) ∧ w.grownBy w' (some g) := by
  have c0 := blk_cell h 0; have c1 := blk_cell h 1; have c2 := blk_cell h 2; have c3 := blk_cell h 3; have c4 := blk_cell h 4
  have f0 := blk_frozen h 0; have f1 := blk_frozen h 1; have f2 := blk_frozen h 2; have f3 := blk_frozen h 3; have f4 := blk_frozen h 4
  simp only [mcells, List.getElem?_cons_zero, List.getElem?_cons_succ] at c0 c1 c2 c3 c4
  have H66 : Hid (∀ w, Calls Tryd.prog 66 #[.int .u8 ((c.toNat : Nat) : Int)] w fun e w' => e = .returned (.bool (blankB c)) ∧ w' = w) := fun w => blank_any c w
  have H65 := Lib.hid (shut_any g _ w h)
  have H67 : Hid (Calls Tryd.prog 67 #[.pointer (some ⟨g, 0, none⟩), .int .u8 ((c.toNat : Nat) : Int)] w fun e w' => (∃ v, e = .returned v) ∧ IsMach w' g ⟨6, nm, [smallB c], q, f, tl⟩ ∧ w.grownBy w' (some g)) := begin_any g _ c w h
  have H := Lib.hid h; clear h
  by_cases n62 : c = 62
  · subst n62
    rw [show tagM ⟨10, nm, at', q, f, tl⟩ 62 = shutM ⟨10, nm, at', q, f, tl⟩ from rfl, show u8v 62 = .int .u8 62 from rfl]
    go_enter Tryd.func45, Tryd.ntmps45
    go_wp2_with (first | (go_at_call 66; refine (H66.out _).mono ?_; rintro e w' ⟨rfl, rfl⟩) | (go_at_call 65; refine H65.out.mono ?_; rintro e w' ⟨⟨v, rfl⟩, hm', hg'⟩) | (go_at_call 67; refine H67.out.mono ?_; rintro e w' ⟨⟨v, rfl⟩, hm', hg'⟩))
    go_returns
    exact ⟨⟨_, rfl⟩, hm', hg'⟩
  have t62 : ((c.toNat : Int) == (62 : Int)) = false := u8_ne (k := 62) 62 rfl n62
  cases hb : blankB c with
  | true =>
    rw [hb] at H66
    rw [show tagM ⟨10, nm, at', q, f, tl⟩ c = ⟨5, nm, at', q, f, tl⟩ by simp [tagM, n62, hb]]
    unfold u8v
    go_enter Tryd.func45, Tryd.ntmps45
    go_wp2_with (first | (go_at_call 66; refine (H66.out _).mono ?_; rintro e w' ⟨rfl, rfl⟩) | (go_at_call 65; refine H65.out.mono ?_; rintro e w' ⟨⟨v, rfl⟩, hm', hg'⟩) | (go_at_call 67; refine H67.out.mono ?_; rintro e w' ⟨⟨v, rfl⟩, hm', hg'⟩))
    go_returns
    exact ⟨⟨_, rfl⟩, blk_set H.out 0 _, gb_set _ _ _ _⟩
  | false =>
    rw [hb] at H66
  
    rw [show tagM ⟨10, nm, at', q, f, tl⟩ c = ⟨10, nm, at', q, f, tl⟩ by simp [tagM, n62, hb]]
    unfold u8v
    go_enter Tryd.func45, Tryd.ntmps45
    go_wp2_with (first | (go_at_call 66; refine (H66.out _).mono ?_; rintro e w' ⟨rfl, rfl⟩) | (go_at_call 65; refine H65.out.mono ?_; rintro e w' ⟨⟨v, rfl⟩, hm', hg'⟩) | (go_at_call 67; refine H67.out.mono ?_; rintro e w' ⟨⟨v, rfl⟩, hm', hg'⟩))
    go_returns
    exact ⟨⟨_, rfl⟩, H.out, World.grownBy.refl _ _⟩
theorem tag_any (g : Nat) (m : Mach) (c : UInt8) (w : World) (h : IsMach w g m) (hl : m.name.length + m.attr.length ≤ 1000000) (hst : m.st = 3 ∨ m.st = 5 ∨ m.st = 6 ∨ m.st = 7 ∨ m.st = 8 ∨ m.st = 10) :
    Calls Tryd.prog 45 #[.pointer (some ⟨g, 0, none⟩), u8v c] w fun e w' => (∃ v, e = .returned v) ∧ IsMach w' g (tagM m c) ∧ w.grownBy w' (some g) := by
  obtain ⟨st, nm, at', q, f, tl⟩ := m
  dsimp only at hst hl
  rcases hst with rfl | rfl | rfl | rfl | rfl | rfl
  · exact tag3 g nm at' q f tl c w h hl
  · exact tag5 g nm at' q f tl c w h hl
  · exact tag6 g nm at' q f tl c w h hl
  · exact tag7 g nm at' q f tl c w h hl
  · exact tag8 g nm at' q f tl c w h hl
  · exact tag10 g nm at' q f tl c w h hl
end Go.Proofs.YthilkpjdfjjikaaDoor
