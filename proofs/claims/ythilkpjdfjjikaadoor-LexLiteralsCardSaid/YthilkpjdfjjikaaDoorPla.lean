/-
  Where an insert stands; where a text is none.
-/
import Derived.Test.YthilkpjdfjjikaaDoorPth
namespace Go.Proofs.YthilkpjdfjjikaaDoor
open Go.RowKit

def urlA : List Bs := [[104, 114, 101, 102], [115, 114, 99], [97, 99, 116, 105, 111, 110], [99, 105, 116, 101]]
/-- The place of what is put in; whether anything may be. -/
def placeL (st : Nat) (a : Bs) (f : Bool) : Nat × Bool :=
  if st = 0 then (0, true)
  else if st ≠ 9 ∨ a = [115, 116, 121, 108, 101] ∨ a = [115, 114, 99, 100, 111, 99] ∨ Lib.hasPrefix a [111, 110] = true then (0, false)
  else if ¬ a ∈ urlA then (1, true)
  else if f = true then (3, true)
  else (2, true)
set_option maxHeartbeats 4000000 in
set_option maxRecDepth 100000 in
theorem place_any (g : Nat) (m : Mach) (w : World) (h : IsMach w g m) :
    Calls Tryd.prog 30 #[.pointer (some ⟨g, 0, none⟩)] w fun e w' => e = .returned (.tuple #[.int .i64 (((placeL m.st m.attr m.filled).1 : Nat) : Int), .bool (placeL m.st m.attr m.filled).2]) ∧ Below w.heap.size w w' := by
  obtain ⟨st, nm, at', q, f, tl⟩ := m
  have c0 := blk_cell h 0; have c2 := blk_cell h 2; have c4 := blk_cell h 4
  simp only [mcells, List.getElem?_cons_zero, List.getElem?_cons_succ] at c0 c2 c4
  have H := Lib.hid h; clear h
  dsimp only
  obtain ⟨R, hR⟩ : ∃ R, R = placeL st at' f := ⟨_, rfl⟩
  rw [← hR]
  have HR := Lib.hid hR; clear hR
  have H50 : Hid (∀ w, Calls Tryd.prog 50 #[.string (bs at'), .string ⟨#[111, 110]⟩] w fun e w' => e = .returned (.bool (Lib.hasPrefix at' [111, 110])) ∧ w' = w) := fun w => Tryd.strings_HasPrefix (bs at') ⟨#[111, 110]⟩ w
  by_cases h0 : st = 0
  · subst h0
    have hr : R = (0, true) := by rw [HR.out]; rfl
    rw [hr]
    clear hr HR
    go_enter Tryd.func30, Tryd.ntmps30
    go_wp2_with fail
    go_ret2
    exact ⟨rfl, Below.refl _ _⟩
  · have t0 : ((st : Int) == 0) = false := by rw [beq_eq_false_iff_ne]; omega
    by_cases h9 : st = 9
    · subst h9
      have q1 := eq_bs at' [115, 116, 121, 108, 101]
      have q2 := eq_bs at' [115, 114, 99, 100, 111, 99]
      by_cases h1 : at' = [115, 116, 121, 108, 101]
      · rw [show (at' == [115, 116, 121, 108, 101]) = true from beq_iff_eq.2 h1] at q1
        have hr : R = (0, false) := by rw [HR.out]; unfold placeL; rw [if_neg h0, if_pos (.inr (.inl h1))]
        rw [hr]
        clear hr HR h1 q2
        go_enter Tryd.func30, Tryd.ntmps30
        go_wp2_with fail
        go_ret2
        exact ⟨rfl, Below.refl _ _⟩
      · rw [show (at' == [115, 116, 121, 108, 101]) = false from beq_eq_false_iff_ne.2 h1] at q1
        by_cases h2 : at' = [115, 114, 99, 100, 111, 99]
        · rw [show (at' == [115, 114, 99, 100, 111, 99]) = true from beq_iff_eq.2 h2] at q2
          have hr : R = (0, false) := by rw [HR.out]; unfold placeL; rw [if_neg h0, if_pos (.inr (.inr (.inl h2)))]
          rw [hr]
          clear hr HR h1 h2
          go_enter Tryd.func30, Tryd.ntmps30
          go_wp2_with fail
          go_ret2
          exact ⟨rfl, Below.refl _ _⟩
        · rw [show (at' == [115, 114, 99, 100, 111, 99]) = false from beq_eq_false_iff_ne.2 h2] at q2
          cases hp : Lib.hasPrefix at' [111, 110] with
          | true =>
            rw [hp] at H50
            have hr : R = (0, false) := by rw [HR.out]; unfold placeL; rw [if_neg h0, if_pos (.inr (.inr (.inr hp)))]
            rw [hr]
            clear hr HR h1 h2 hp
            go_enter Tryd.func30, Tryd.ntmps30
            go_wp2_with (go_at_call 50; refine (H50.out _).mono ?_; rintro e w9 ⟨rfl, rfl⟩)
            go_ret2
            exact ⟨rfl, Below.refl _ _⟩
          | false =>
            rw [hp] at H50
            have hr1 : R = if ¬ at' ∈ urlA then (1, true) else if f = true then (3, true) else (2, true) := by
              rw [HR.out]; unfold placeL
              rw [if_neg h0, if_neg (by rintro (e | e | e | e); · exact e rfl
                                        · exact h1 e
                                        · exact h2 e
                                        · rw [hp] at e; cases e)]
            have hc := Tryd.slices_Contains_string w.heap.size 0 4 4 (urlA.map bs) (bs at') (w.alloc (.cells (strs urlA).toArray 9)) (by decide) (by decide) (fun j hj => by
              rw [Nat.zero_add, cell_of_row _ w.heap.size j (strs urlA).toArray 9 (0, 0) (heap_alloc_new w _)]
              have hj6 : j < 4 := hj
              match j, hj6 with
              | 0, _ => rfl
              | 1, _ => rfl
              | 2, _ => rfl
              | 3, _ => rfl)
            have hcc : Lib.containsS ((urlA.map bs).take 4) (bs at') = decide (at' ∈ urlA) := by
              rw [Bool.eq_iff_iff, Lib.containsS_iff, decide_eq_true_eq, show (urlA.map bs).take 4 = urlA.map bs from rfl, List.mem_map]
              constructor
              · rintro ⟨y, hy, e⟩; rw [← bs_inj e]; exact hy
              · intro h; exact ⟨at', h, rfl⟩
            rw [hcc] at hc
            have d4 : (w.alloc (.cells (strs urlA).toArray 9)).cell? ⟨g, 4, none⟩ = some (.bool f) := (World.cell?_alloc_lt w _ ⟨g, 4, none⟩ (blk_lt H.out)).trans c4
            have hbw : Below w.heap.size w (w.alloc (.cells (strs urlA).toArray 9)) := (Below.refl _ w).alloc (Nat.le_refl _) _
            have H51 : Hid (Calls Tryd.prog 51 #[.slice (some ⟨w.heap.size, 0, none⟩) 4 4, .string (bs at')] (w.alloc (.cells #[.string ⟨#[104, 114, 101, 102]⟩, .string ⟨#[115, 114, 99]⟩, .string ⟨#[97, 99, 116, 105, 111, 110]⟩, .string ⟨#[99, 105, 116, 101]⟩] 9)) fun e w' => e = .returned (.bool (decide (at' ∈ urlA))) ∧ w' = (w.alloc (.cells #[.string ⟨#[104, 114, 101, 102]⟩, .string ⟨#[115, 114, 99]⟩, .string ⟨#[97, 99, 116, 105, 111, 110]⟩, .string ⟨#[99, 105, 116, 101]⟩] 9))) := hc
            have D4 : Hid ((w.alloc (.cells #[.string ⟨#[104, 114, 101, 102]⟩, .string ⟨#[115, 114, 99]⟩, .string ⟨#[97, 99, 116, 105, 111, 110]⟩, .string ⟨#[99, 105, 116, 101]⟩] 9)).cell? ⟨g, 4, none⟩ = some (.bool f)) := d4
            have HBW : Hid (Below w.heap.size w (w.alloc (.cells #[.string ⟨#[104, 114, 101, 102]⟩, .string ⟨#[115, 114, 99]⟩, .string ⟨#[97, 99, 116, 105, 111, 110]⟩, .string ⟨#[99, 105, 116, 101]⟩] 9))) := hbw
            clear h1 h2 hp HR hc hcc d4 hbw
            have d4 := D4.out
            by_cases hu : at' ∈ urlA
            · rw [decide_eq_true hu] at H51
              rw [if_neg (by simpa using hu)] at hr1
              clear hu
              cases f with
              | true =>
                rw [hr1]
                go_enter Tryd.func30, Tryd.ntmps30
                go_wp2_with (first | (go_at_call 50; refine (H50.out _).mono ?_; rintro e w9 ⟨rfl, rfl⟩) | (go_at_call 51; refine H51.out.mono ?_; rintro e w9 ⟨rfl, rfl⟩))
                go_ret2
                exact ⟨rfl, HBW.out⟩
              | false =>
                rw [hr1]
                go_enter Tryd.func30, Tryd.ntmps30
                go_wp2_with (first | (go_at_call 50; refine (H50.out _).mono ?_; rintro e w9 ⟨rfl, rfl⟩) | (go_at_call 51; refine H51.out.mono ?_; rintro e w9 ⟨rfl, rfl⟩))
                go_ret2
                exact ⟨rfl, HBW.out⟩
            · rw [decide_eq_false hu] at H51
              rw [if_pos hu] at hr1
              rw [hr1]
              clear hu
              go_enter Tryd.func30, Tryd.ntmps30
              go_wp2_with (first | (go_at_call 50; refine (H50.out _).mono ?_; rintro e w9 ⟨rfl, rfl⟩) | (go_at_call 51; refine H51.out.mono ?_; rintro e w9 ⟨rfl, rfl⟩))
              go_ret2
              exact ⟨rfl, HBW.out⟩
    · have t9 : ((st : Int) != 9) = true := by rw [bne_iff_ne]; omega
      have hr : R = (0, false) := by rw [HR.out]; unfold placeL; rw [if_neg h0, if_pos (.inl h9)]
      rw [hr]
      clear hr HR
      go_enter Tryd.func30, Tryd.ntmps30
      go_wp2_with fail
      go_ret2
      exact ⟨rfl, Below.refl _ _⟩
end Go.Proofs.YthilkpjdfjjikaaDoor
