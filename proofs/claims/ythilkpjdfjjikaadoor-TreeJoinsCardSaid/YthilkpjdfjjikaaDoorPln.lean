/-
  Texts without marks: one literal; with an insert behind it, and it again, three pieces (plain).
-/
import Derived.Test.YthilkpjdfjjikaaDoorLayM
set_option linter.unusedVariables false
set_option linter.unusedSimpArgs false
namespace Go.Proofs.YthilkpjdfjjikaaDoor
open Go.RowKit

def markB (p : Nat) : Bool := p == 60 || p == 123 || p == 125 || p == 65533
/-- What LexPlain keeps of a text. -/
def keepFrom : Nat → Bs → Bs
  | 0, _ => []
  | _ + 1, [] => []
  | f + 1, x :: r => (if markB (fixP (readL (x :: r)).1).toNat = true then [] else oneL (fixP (readL (x :: r)).1).toNat) ++ keepFrom f ((x :: r).drop (readL (x :: r)).2)
def keepL (s : Bs) : Bs := keepFrom s.length s
theorem readL_pt (x : UInt8) (r : Bs) (h : 0 ≤ (readL (x :: r)).1) : isPt (readL (x :: r)).1 = true := by
  simp only [readL] at h ⊢
  split at h
  · rename_i h1
    rw [if_pos h1]
    show isPt (x.toNat : Int) = true
    simp only [isPt, Bool.and_eq_true, Bool.or_eq_true, decide_eq_true_eq]; omega
  · rename_i h1
    rw [if_neg h1]
    split at h
    · exact absurd h (by decide)
    · rename_i n least b hh
      split at h
      · exact absurd h (by decide)
      · rename_i h2
        rw [if_neg h2]
        split at h
        · exact absurd h (by decide)
        · rename_i p hp
          split at h
          · exact absurd h (by decide)
          · rename_i h3
            rw [if_neg h3]
            cases hi : isPt p with
            | true => rfl
            | false => exact absurd (.inr hi) h3
theorem keep_pts : ∀ (f : Nat) (s : Bs), ∃ ps : List Nat, keepFrom f s = ps.flatMap oneL ∧ (∀ p ∈ ps, isPt (p : Int) = true ∧ markB p = false) ∧ (keepFrom f s).length ≤ s.length
  | 0, _ => ⟨[], rfl, (fun _ h => by cases h), Nat.zero_le _⟩
  | _ + 1, [] => ⟨[], rfl, (fun _ h => by cases h), Nat.le_refl _⟩
  | f + 1, x :: r => by
    obtain ⟨ps, h1, h2, h3⟩ := keep_pts f ((x :: r).drop (readL (x :: r)).2)
    have hk := readL_le x r
    rw [List.length_drop] at h3
    unfold keepFrom
    by_cases hm : markB (fixP (readL (x :: r)).1).toNat = true
    · rw [if_pos hm, List.nil_append]
      exact ⟨ps, h1, h2, by rw [List.length_cons] at h3 ⊢; omega⟩
    · rw [if_neg hm]
      have hp : 0 ≤ (readL (x :: r)).1 := by
        by_cases h0 : 0 ≤ (readL (x :: r)).1
        · exact h0
        · exfalso
          apply hm
          unfold fixP
          rw [if_pos (by omega)]
          rfl
      have hf : fixP (readL (x :: r)).1 = (readL (x :: r)).1 := by unfold fixP; rw [if_neg (by omega)]
      have hpt := readL_pt x r hp
      have hone := one_read x r hp
      rw [hf] at hm ⊢
      refine ⟨(readL (x :: r)).1.toNat :: ps, by rw [List.flatMap_cons, h1], ?_, ?_⟩
      · intro p hpp
        rcases List.mem_cons.1 hpp with rfl | hpp
        · refine ⟨by rw [show (((readL (x :: r)).1.toNat : Nat) : Int) = (readL (x :: r)).1 from by omega]; exact hpt, ?_⟩
          cases hmm : markB (readL (x :: r)).1.toNat with
          | true => exact absurd hmm hm
          | false => rfl
        · exact h2 p hpp
      · rw [List.length_append, hone, List.length_take]
        rw [List.length_cons] at h3 ⊢
        omega
theorem oneL_mark (p : Nat) (hp : isPt (p : Int) = true) (hm : markB p = false) : ∀ b ∈ oneL p, b ≠ 60 ∧ b ≠ 123 ∧ b ≠ 125 := by
  have hr : p ≤ 1114111 := by
    simp only [isPt, Bool.and_eq_true, Bool.or_eq_true, decide_eq_true_eq] at hp; omega
  have hq : p ≠ 60 ∧ p ≠ 123 ∧ p ≠ 125 := by
    simp only [markB, Bool.or_eq_false_iff, beq_eq_false_iff_ne] at hm
    exact ⟨hm.1.1.1, hm.1.1.2, hm.1.2⟩
  have key : ∀ n : Nat, n < 256 → n ≠ 60 → n ≠ 123 → n ≠ 125 → UInt8.ofNat n ≠ 60 ∧ UInt8.ofNat n ≠ 123 ∧ UInt8.ofNat n ≠ 125 := by
    intro n hn h1 h2 h3
    refine ⟨fun e => h1 ?_, fun e => h2 ?_, fun e => h3 ?_⟩
    all_goals
      have := congrArg UInt8.toNat e
      rw [tn n hn] at this
      exact this
  intro b hb
  unfold oneL at hb
  split at hb
  · rw [List.mem_singleton.1 hb]; exact key p (by omega) hq.1 hq.2.1 hq.2.2
  · split at hb
    · simp only [List.mem_cons, List.not_mem_nil, or_false] at hb
      rcases hb with rfl | rfl <;> exact key _ (by omega) (by omega) (by omega) (by omega)
    · split at hb
      · simp only [List.mem_cons, List.not_mem_nil, or_false] at hb
        rcases hb with rfl | rfl | rfl <;> exact key _ (by omega) (by omega) (by omega) (by omega)
      · simp only [List.mem_cons, List.not_mem_nil, or_false] at hb
        rcases hb with rfl | rfl | rfl | rfl <;> exact key _ (by omega) (by omega) (by omega) (by omega)
theorem bad_pts : ∀ (F : Nat) (ps : List Nat) (i : Nat), (∀ p ∈ ps, isPt (p : Int) = true) → badFrom F (ps.flatMap oneL) i = none
  | 0, _, _, _ => rfl
  | F + 1, [], i, _ => rfl
  | F + 1, p :: ps, i, h => by
    have hp := h p (List.mem_cons_self ..)
    have hr := readL_one p (ps.flatMap oneL) hp
    rw [List.flatMap_cons]
    have hl := (oneL_length p).1
    cases hx : oneL p ++ ps.flatMap oneL with
    | nil => have := congrArg List.length hx; rw [List.length_append] at this; simp at this; rw [this.1] at hl; simp at hl
    | cons x r =>
      rw [badFrom, ← hx, hr, if_neg (by show ¬ (p : Int) < 0; omega)]
      dsimp only
      rw [List.drop_left]
      exact bad_pts F ps _ (fun q hq => h q (List.mem_cons_of_mem _ hq))
theorem index_none (a b : UInt8) (l : Bs) (h : ∀ x ∈ l, x ≠ a) : Lib.index l [a, b] = -1 := by
  have hge := Lib.index_ge l [a, b]
  by_cases h1 : Lib.index l [a, b] = -1
  · exact h1
  · obtain ⟨i, hi⟩ : ∃ i : Nat, Lib.index l [a, b] = (i : Int) := ⟨(Lib.index l [a, b]).toNat, by omega⟩
    have hf := index_first2 a b l i hi
    exfalso
    have hm : a ∈ (l.drop i).take 2 := by rw [hf.1]; simp
    exact h a (List.mem_of_mem_drop (List.mem_of_mem_take hm)) rfl
theorem index_at (a b : UInt8) (R : Bs) : ∀ l : Bs, (∀ x ∈ l, x ≠ a) → Lib.index (l ++ (a :: b :: R)) [a, b] = (l.length : Int)
  | [], _ => by
    show Lib.index (a :: b :: R) [a, b] = 0
    unfold Lib.index
    rw [if_pos (by simp [List.isPrefixOf])]
  | x :: l, h => by
    show Lib.index (x :: (l ++ (a :: b :: R))) [a, b] = _
    have hx : x ≠ a := h x (List.mem_cons_self ..)
    have ih := index_at a b R l (fun y hy => h y (List.mem_cons_of_mem _ hy))
    unfold Lib.index
    have hxa : (a == x) = false := by rw [beq_eq_false_iff_ne]; exact fun e => hx e.symm
    rw [if_neg (by simp [List.isPrefixOf, hxa]), ih]
    rw [if_neg (by simp)]
    rfl
theorem cut_none (a b : UInt8) (l : Bs) (h : ∀ x ∈ l, x ≠ a) : Lib.cut l [a, b] = (l, [], false) := by
  unfold Lib.cut
  rw [index_none a b l h, if_neg (by decide)]
theorem cut_at (a b : UInt8) (R l : Bs) (h : ∀ x ∈ l, x ≠ a) : Lib.cut (l ++ (a :: b :: R)) [a, b] = (l, R, true) := by
  unfold Lib.cut
  rw [index_at a b R l h, if_pos (by omega), Int.toNat_natCast, List.take_left]
  have : (l ++ a :: b :: R).drop (l.length + [a, b].length) = R := by
    rw [← List.drop_drop, List.drop_left]; rfl
  rw [this]
theorem fold_plain (m : Mach) (hm : m.st = 0) : ∀ l : Bs, (∀ x ∈ l, x ≠ 60) → l.foldl stepM m = m
  | [], _ => rfl
  | x :: l, h => by
    have : stepM m x = m := by
      unfold stepM
      rw [if_pos hm]
      unfold textM
      rw [if_neg (h x (List.mem_cons_self ..))]
    rw [List.foldl_cons, this]
    exact fold_plain m hm l (fun y hy => h y (List.mem_cons_of_mem _ hy))
theorem tag_ab : tagL [97, 46, 98] = some ⟨1, 0, [], [[97], [98]], [], 0⟩ := by kernel_rfl
theorem place_0 (a : Bs) (f : Bool) : placeL 0 a f = (0, true) := rfl
/-- A text without marks. -/
structure Plain (t : Bs) : Prop where
  pts : ∃ ps : List Nat, t = ps.flatMap oneL ∧ ∀ p ∈ ps, isPt (p : Int) = true
  no : ∀ b ∈ t, b ≠ 60 ∧ b ≠ 123 ∧ b ≠ 125
theorem keep_plain (s : Bs) : Plain (keepL s) ∧ (keepL s).length ≤ s.length := by
  obtain ⟨ps, h1, h2, h3⟩ := keep_pts s.length s
  refine ⟨⟨⟨ps, h1, fun p hp => (h2 p hp).1⟩, ?_⟩, h3⟩
  intro b hb
  unfold keepL at hb
  rw [h1] at hb
  obtain ⟨p, hp, hb⟩ := List.mem_flatMap.1 hb
  exact oneL_mark p (h2 p hp).1 (h2 p hp).2 b hb
theorem lex_plain (t : Bs) (h : Plain t) (h0 : t ≠ []) (hl : t.length ≤ 3000) : lexL t = ⟨[⟨0, 0, t, [], [], 0⟩], 0, 0⟩ := by
  obtain ⟨ps, hp, hq⟩ := h.pts
  unfold lexL
  rw [if_neg (by omega)]
  have hb : badL t = none := by unfold badL; rw [hp]; exact bad_pts _ ps 0 hq
  rw [hb]
  dsimp only
  have hc : Lib.cut (t.drop 0) [123, 123] = (t, [], false) := cut_none 123 123 t (fun x hx => (h.no x hx).2.1)
  rw [lexFrom, if_pos (List.length_pos_iff.2 h0), hc]
  dsimp only
  rw [if_pos rfl, fold_plain mach0 rfl t (fun x hx => (h.no x hx).1)]
  unfold lexEnd litP
  rw [if_pos (show mach0.st = 0 from rfl), if_neg h0]
  rfl
theorem lex_three (t : Bs) (h : Plain t) (h0 : t ≠ []) (hl : t.length ≤ 3000) : lexL (t ++ [123, 123, 97, 46, 98, 125, 125] ++ t) = ⟨[⟨0, 0, t, [], [], 0⟩, ⟨1, t.length, [], [[97], [98]], [], 0⟩, ⟨0, t.length + 7, t, [], [], 0⟩], 0, 0⟩ := by
  obtain ⟨ps, hp, hq⟩ := h.pts
  have htl : (t ++ [123, 123, 97, 46, 98, 125, 125] ++ t).length = t.length + 7 + t.length := by simp; omega
  have htp := List.length_pos_iff.2 h0
  unfold lexL
  rw [if_neg (by rw [htl]; omega)]
  have hb : badL (t ++ [123, 123, 97, 46, 98, 125, 125] ++ t) = none := by
    unfold badL
    have e : t ++ [123, 123, 97, 46, 98, 125, 125] ++ t = (ps ++ [123, 123, 97, 46, 98, 125, 125] ++ ps).flatMap oneL := by
      rw [List.flatMap_append, List.flatMap_append, ← hp]
      rfl
    rw [e]
    refine bad_pts _ _ 0 ?_
    intro p hpp
    rcases List.mem_append.1 hpp with hpp | hpp
    · rcases List.mem_append.1 hpp with hpp | hpp
      · exact hq p hpp
      · simp only [List.mem_cons, List.not_mem_nil, or_false] at hpp
        rcases hpp with rfl | rfl | rfl | rfl | rfl | rfl | rfl <;> decide
    · exact hq p hpp
  rw [hb]
  dsimp only
  have hc : Lib.cut ((t ++ [123, 123, 97, 46, 98, 125, 125] ++ t).drop 0) [123, 123] = (t, [97, 46, 98, 125, 125] ++ t, true) := by
    have := cut_at 123 123 ([97, 46, 98, 125, 125] ++ t) t (fun x hx => (h.no x hx).2.1)
    rw [List.drop_zero, List.append_assoc]
    exact this
  have hc2 : Lib.cut ([97, 46, 98, 125, 125] ++ t) [125, 125] = ([97, 46, 98], t, true) := cut_at 125 125 t [97, 46, 98] (by decide)
  have hd : (t ++ [123, 123, 97, 46, 98, 125, 125] ++ t).drop (0 + t.length + (3 + 4)) = t := by
    rw [show 0 + t.length + (3 + 4) = (t ++ [123, 123, 97, 46, 98, 125, 125]).length from by simp, List.drop_left]
  have hc3 : Lib.cut t [123, 123] = (t, [], false) := cut_none 123 123 t (fun x hx => (h.no x hx).2.1)
  rw [lexFrom, if_pos (by rw [htl]; omega), hc]
  dsimp only
  rw [hc2]
  dsimp only
  rw [if_neg (by decide), tag_ab]
  dsimp only
  rw [if_neg (by decide), fold_plain mach0 rfl t (fun x hx => (h.no x hx).1)]
  rw [show placeL mach0.st mach0.attr mach0.filled = (0, true) from rfl]
  rw [if_neg (by simp)]
  rw [show ([97, 46, 98] : Bs).length = 3 from rfl]
  rw [htl, show t.length + 7 + t.length = (t.length + 6 + t.length) + 1 from by omega, lexFrom, if_pos (by rw [htl]; omega), hd, hc3]
  dsimp only
  rw [if_pos rfl, fold_plain { mach0 with filled := true } rfl t (fun x hx => (h.no x hx).1)]
  unfold lexEnd litP
  rw [if_pos (show mach0.st = 0 from rfl), if_neg h0]
  simp [h0]
end Go.Proofs.YthilkpjdfjjikaaDoor
