/-
  The two machines of a template's literals, plain: the program's and the document's; they go side by side.
-/
import Derived.Lib.Strings
set_option linter.unusedVariables false
set_option linter.unusedSimpArgs false
namespace Go.Proofs.YthilkpjdfjjikaaDoor

abbrev Bs := List UInt8
def blankB (c : UInt8) : Bool := c == 32 || c == 9 || c == 10 || c == 12 || c == 13
def letterB (c : UInt8) : Bool := (decide (97 ≤ c.toNat) && decide (c.toNat ≤ 122)) || (decide (65 ≤ c.toNat) && decide (c.toNat ≤ 90))
def smallB (c : UInt8) : UInt8 := if decide (65 ≤ c.toNat) && decide (c.toNat ≤ 90) then c + 32 else c
/-- "script", "style". -/
def bScript : Bs := [115, 99, 114, 105, 112, 116]
def bStyle : Bs := [115, 116, 121, 108, 101]
def rawEl (n : Bs) : Bool := n == bScript || n == bStyle

structure Mach where
  st : Nat
  name : Bs
  attr : Bs
  quote : UInt8
  filled : Bool
  tail : Bs
def bangM (m : Mach) (c : UInt8) : Mach :=
  if (c == 62 && (!Lib.hasPrefix m.tail [45, 45] || Lib.hasSuffix m.tail [45, 45])) = true then { m with st := 0 }
  else if (Lib.hasPrefix m.tail [45, 45] && decide (4 < (m.tail ++ [c]).length)) = true then { m with tail := [45, 45] ++ (m.tail ++ [c]).drop ((m.tail ++ [c]).length - 2) }
  else { m with tail := m.tail ++ [c] }
def shutM (m : Mach) : Mach := { m with st := if rawEl m.name then 12 else 0, tail := [] }
def tagM (m : Mach) (c : UInt8) : Mach :=
  if c = 62 then shutM m
  else if m.st = 8 ∧ blankB c = false then (if c = 34 ∨ c = 39 then { m with st := 9, quote := c, filled := false } else { m with st := 10 })
  else if (m.st = 10 ∧ blankB c = false) ∨ m.st = 8 then m
  else if m.st = 6 ∧ blankB c = true then { m with st := 7 }
  else if m.st = 7 ∧ blankB c = true then m
  else if blankB c = true ∨ c = 47 then { m with st := 5 }
  else if (m.st = 6 ∨ m.st = 7) ∧ c = 61 then { m with st := 8 }
  else if m.st = 3 then { m with name := m.name ++ [smallB c] }
  else if m.st = 6 then { m with attr := m.attr ++ [smallB c] }
  else { m with st := 6, attr := [smallB c] }
def textM (m : Mach) (c : UInt8) : Mach := if c = 60 then { m with st := 1 } else m
def openM (m : Mach) (c : UInt8) : Mach :=
  if letterB c = true then { m with st := 3, name := [smallB c] }
  else if c = 47 then { m with st := 2 }
  else if c = 33 then { m with st := 11, tail := [] }
  else textM { m with st := 0 } c
def closeM (m : Mach) (c : UInt8) : Mach := if letterB c = true then { m with st := 4, tail := [] } else bangM { m with st := 11, tail := [] } c
def rawM (m : Mach) (c : UInt8) : Mach :=
  { m with st := if Lib.hasSuffix (m.tail ++ [smallB c]) (60 :: 47 :: m.name) then 4 else m.st, tail := (m.tail ++ [smallB c]).drop ((m.tail ++ [smallB c]).length - 8) }
def stepM (m : Mach) (c : UInt8) : Mach :=
  if m.st = 0 then textM m c
  else if m.st = 1 then openM m c
  else if m.st = 2 then closeM m c
  else if m.st = 4 then (if c = 62 then { m with st := 0 } else m)
  else if m.st = 9 then { m with st := if c = m.quote then 5 else m.st, filled := true }
  else if m.st = 11 then bangM m c
  else if m.st = 12 then rawM m c
  else tagM m c

/-! ### The document's -/
structure Walk where
  st : Nat
  el : Bs
  attr : Bs
  seen : Bs
  quote : UInt8
  filled : Bool
def textW (w : Walk) (c : UInt8) : Walk := if c = 60 then { w with st := 1 } else w
def bangW (w : Walk) (c : UInt8) : Walk :=
  { w with st := if c = 62 ∧ (w.seen.length < 2 ∨ (w.seen ++ [c]).take 2 ≠ [45, 45] ∨ ((w.seen ++ [c]).take w.seen.length).drop (w.seen.length - 2) = [45, 45]) then 0 else w.st, seen := w.seen ++ [c] }
def startW (n : Nat) : Bool := n == 3 || n == 5 || n == 6 || n == 7 || n == 8 || n == 10
def endsB (s t : Bs) : Bool := decide (t.length ≤ s.length) && decide (s.drop (s.length - t.length) = t)
def stepW (w : Walk) (c : UInt8) : Walk :=
  if startW w.st = true ∧ c = 62 then (if rawEl w.el = true then { w with st := 12, seen := [] } else { w with st := 0 })
  else if w.st = 0 then textW w c
  else if w.st = 1 then
    (if letterB c = true then { w with st := 3, el := [smallB c] }
     else if c = 47 then { w with st := 2 }
     else if c = 33 then { w with st := 11, seen := [] }
     else textW { w with st := 0 } c)
  else if w.st = 2 then (if letterB c = true then { w with st := 4 } else bangW { w with st := 11, seen := [] } c)
  else if w.st = 4 then (if c = 62 then { w with st := 0 } else w)
  else if w.st = 3 then (if blankB c = true ∨ c = 47 then { w with st := 5 } else { w with el := w.el ++ [smallB c] })
  else if w.st = 5 then (if blankB c = false ∧ c ≠ 47 then { w with st := 6, attr := [smallB c] } else w)
  else if w.st = 6 then
    (if blankB c = true then { w with st := 7 }
     else if c = 47 then { w with st := 5 }
     else if c = 61 then { w with st := 8 }
     else { w with attr := w.attr ++ [smallB c] })
  else if w.st = 7 then
    (if c = 61 then { w with st := 8 }
     else if c = 47 then { w with st := 5 }
     else if blankB c = false then { w with st := 6, attr := [smallB c] }
     else w)
  else if w.st = 8 then
    (if c = 34 ∨ c = 39 then { w with st := 9, quote := c, filled := false }
     else if blankB c = false then { w with st := 10 }
     else w)
  else if w.st = 9 then { w with st := if c = w.quote then 5 else w.st, filled := true }
  else if w.st = 10 then (if blankB c = true then { w with st := 5 } else w)
  else if w.st = 11 then bangW w c
  else if w.st = 12 then { w with st := if endsB (w.seen ++ [smallB c]) (60 :: 47 :: w.el) then 4 else w.st, seen := w.seen ++ [smallB c] }
  else w

/-! ### Side by side -/
/-- What a remark's tail keeps of what was seen. -/
def RB (seen tail : Bs) : Prop := tail = seen ∨ (seen.take 2 = [45, 45] ∧ 4 ≤ seen.length ∧ tail = [45, 45] ++ seen.drop (seen.length - 2))
structure RelM (w : Walk) (m : Mach) : Prop where
  le : m.st ≤ 12
  st : w.st = m.st
  el : w.el = m.name
  attr : w.attr = m.attr
  quote : w.quote = m.quote
  filled : w.filled = m.filled
  bang : m.st = 11 → RB w.seen m.tail
  raw : m.st = 12 → rawEl m.name = true ∧ m.tail = w.seen.drop (w.seen.length - 8)

theorem pre_iff (t : Bs) : Lib.hasPrefix t [45, 45] = decide (t.take 2 = [45, 45]) := by
  match t with
  | [] => rfl
  | [a] => simp [Lib.hasPrefix, List.isPrefixOf]
  | a :: b :: t =>
    unfold Lib.hasPrefix
    simp only [List.isPrefixOf]
    rw [Bool.eq_iff_iff]
    simp only [Bool.and_eq_true, beq_iff_eq, decide_eq_true_eq]
    constructor
    · rintro ⟨rfl, rfl, _⟩; rfl
    · intro h
      have h : [a, b] = [45, 45] := h
      injection h with h1 h2
      injection h2 with h2 _
      exact ⟨h1.symm, h2.symm, trivial⟩
theorem suf_iff (t s : Bs) : Lib.hasSuffix t s = endsB t s := by
  unfold Lib.hasSuffix endsB
  rw [Bool.eq_iff_iff, List.isSuffixOf_iff_suffix, Bool.and_eq_true, decide_eq_true_eq, decide_eq_true_eq]
  constructor
  · rintro ⟨r, rfl⟩
    refine ⟨by simp, ?_⟩
    rw [List.length_append, Nat.add_sub_cancel, List.drop_left]
  · rintro ⟨h1, h2⟩
    exact ⟨t.take (t.length - s.length), by have := List.take_append_drop (t.length - s.length) t; rw [h2] at this; exact this⟩
theorem drop_last2 (x : Bs) (c : UInt8) (h : 1 ≤ x.length) : (x ++ [c]).drop ((x ++ [c]).length - 2) = x.drop (x.length - 1) ++ [c] := by
  rw [List.length_append, List.length_singleton, show x.length + 1 - 2 = x.length - 1 by omega, List.drop_append_of_le_length (by omega)]
/-- The last bytes of the last bytes. -/
theorem drop_drop_last (x : Bs) (k j : Nat) (h : j ≤ k) : (x.drop (x.length - k)).drop ((x.drop (x.length - k)).length - j) = x.drop (x.length - j) := by
  rw [List.drop_drop, List.length_drop]
  congr 1
  omega
theorem RB_pre {seen tail : Bs} (h : RB seen tail) : Lib.hasPrefix tail [45, 45] = decide (seen.take 2 = [45, 45]) := by
  rcases h with rfl | ⟨h1, h2, rfl⟩
  · exact pre_iff _
  · rw [pre_iff, h1]; rfl
theorem RB_suf {seen tail : Bs} (h : RB seen tail) (h2 : 2 ≤ seen.length) : Lib.hasSuffix tail [45, 45] = decide (seen.drop (seen.length - 2) = [45, 45]) := by
  rw [suf_iff]
  unfold endsB
  rcases h with rfl | ⟨_, h4, rfl⟩
  · rw [Bool.eq_iff_iff]; simp; omega
  · have hl : (seen.drop (seen.length - 2)).length = 2 := by rw [List.length_drop]; omega
    generalize seen.drop (seen.length - 2) = D at hl
    rw [Bool.eq_iff_iff]; simp [hl]
theorem RB_next {seen tail : Bs} (h : RB seen tail) (c : UInt8) : RB (seen ++ [c]) (if (Lib.hasPrefix tail [45, 45] && decide (4 < (tail ++ [c]).length)) = true then [45, 45] ++ (tail ++ [c]).drop ((tail ++ [c]).length - 2) else tail ++ [c]) := by
  have hp := RB_pre h
  rw [hp]
  by_cases h2 : seen.take 2 = [45, 45]
  · rw [decide_eq_true h2, Bool.true_and]
    have hl2 : 2 ≤ seen.length := by
      have := congrArg List.length h2
      rw [List.length_take] at this; simp at this; omega
    have ht2 : (seen ++ [c]).take 2 = [45, 45] := by rw [List.take_append_of_le_length hl2]; exact h2
    rcases h with rfl | ⟨_, h4, rfl⟩
    · by_cases h5 : 4 < (tail ++ [c]).length
      · rw [if_pos (decide_eq_true h5)]
        exact .inr ⟨ht2, by omega, rfl⟩
      · rw [if_neg (by simpa using h5)]
        exact .inl rfl
    · have hl : (seen.drop (seen.length - 2)).length = 2 := by rw [List.length_drop]; omega
      rw [if_pos (by simp [hl])]
      refine .inr ⟨ht2, by simp; omega, ?_⟩
      rw [drop_last2 _ c (by simp), drop_last2 seen c (by omega)]
      have e : ([45, 45] ++ seen.drop (seen.length - 2)).drop (([45, 45] ++ seen.drop (seen.length - 2)).length - 1) = seen.drop (seen.length - 1) := by
        rw [List.length_append, hl]
        show (seen.drop (seen.length - 2)).drop 1 = _
        rw [List.drop_drop]
        congr 1
        omega
      rw [e]
  · rw [decide_eq_false h2, Bool.false_and, if_neg (by decide)]
    rcases h with rfl | ⟨h3, _, _⟩
    · exact .inl rfl
    · exact absurd h3 h2
theorem RB_test {seen tail : Bs} (h : RB seen tail) (c : UInt8) : (c = 62 ∧ (seen.length < 2 ∨ (seen ++ [c]).take 2 ≠ [45, 45] ∨ ((seen ++ [c]).take seen.length).drop (seen.length - 2) = [45, 45])) ↔ (c == 62 && (!Lib.hasPrefix tail [45, 45] || Lib.hasSuffix tail [45, 45])) = true := by
  rw [List.take_left]
  by_cases h2 : 2 ≤ seen.length
  · rw [RB_pre h, RB_suf h h2, List.take_append_of_le_length h2]
    simp
    omega
  · have h3 : ¬ seen.take 2 = [45, 45] := by
      intro e
      have := congrArg List.length e
      rw [List.length_take] at this; simp at this; omega
    rw [RB_pre h, decide_eq_false h3]
    simp
    omega
theorem bang_rel {w : Walk} {m : Mach} (h : RelM w m) (hs : m.st = 11) (hb : RB w.seen m.tail) (c : UInt8) : RelM (bangW w c) (bangM m c) := by
  have ht := RB_test hb c
  unfold bangW bangM
  by_cases h1 : (c == 62 && (!Lib.hasPrefix m.tail [45, 45] || Lib.hasSuffix m.tail [45, 45])) = true
  · rw [if_pos h1, if_pos (ht.2 h1)]
    exact ⟨Nat.zero_le _, rfl, h.el, h.attr, h.quote, h.filled, (fun e => by cases e), (fun e => by cases e)⟩
  · rw [if_neg h1, if_neg (fun e => h1 (ht.1 e))]
    have hn := RB_next hb c
    by_cases h2 : (Lib.hasPrefix m.tail [45, 45] && decide (4 < (m.tail ++ [c]).length)) = true
    · rw [if_pos h2] at hn ⊢
      exact ⟨h.le, h.st, h.el, h.attr, h.quote, h.filled, (fun _ => hn), (fun e => by rw [hs] at e; cases e)⟩
    · rw [if_neg h2] at hn ⊢
      exact ⟨h.le, h.st, h.el, h.attr, h.quote, h.filled, (fun _ => hn), (fun e => by rw [hs] at e; cases e)⟩
theorem raw_len {n : Bs} (h : rawEl n = true) : n.length ≤ 6 := by
  unfold rawEl at h
  rw [Bool.or_eq_true, beq_iff_eq, beq_iff_eq] at h
  rcases h with rfl | rfl <;> decide
theorem raw_rel {w : Walk} {m : Mach} (h : RelM w m) (hs : m.st = 12) (c : UInt8) :
    RelM { w with st := if endsB (w.seen ++ [smallB c]) (60 :: 47 :: w.el) then 4 else w.st, seen := w.seen ++ [smallB c] } (rawM m c) := by
  obtain ⟨hr, ht⟩ := h.raw hs
  have hl := raw_len hr
  have e1 : m.tail ++ [smallB c] = (w.seen ++ [smallB c]).drop ((w.seen ++ [smallB c]).length - 9) := by
    rw [ht, List.length_append, List.length_singleton, show w.seen.length + 1 - 9 = w.seen.length - 8 by omega, List.drop_append_of_le_length (by omega)]
  have e2 : Lib.hasSuffix (m.tail ++ [smallB c]) (60 :: 47 :: m.name) = endsB (w.seen ++ [smallB c]) (60 :: 47 :: w.el) := by
    rw [suf_iff, h.el, e1]
    generalize w.seen ++ [smallB c] = X
    have hk : (60 :: 47 :: m.name).length ≤ 8 := by simp; omega
    generalize 60 :: 47 :: m.name = T at hk
    unfold endsB
    rw [drop_drop_last X 9 T.length (by omega)]
    congr 1
    rw [Bool.eq_iff_iff, decide_eq_true_eq, decide_eq_true_eq, List.length_drop]
    omega
  have e3 : (m.tail ++ [smallB c]).drop ((m.tail ++ [smallB c]).length - 8) = (w.seen ++ [smallB c]).drop ((w.seen ++ [smallB c]).length - 8) := by
    rw [e1, drop_drop_last _ 9 8 (by omega)]
  unfold rawM
  rw [e2, e3]
  cases he : endsB (w.seen ++ [smallB c]) (60 :: 47 :: w.el) with
  | true => exact ⟨by simp, by simp, h.el, h.attr, h.quote, h.filled, fun e => by simp at e, fun e => by simp at e⟩
  | false => exact ⟨by simpa using h.le, by simpa using h.st, h.el, h.attr, h.quote, h.filled, fun e => by simp [hs] at e, fun _ => ⟨hr, rfl⟩⟩
theorem rel_mk (st : Nat) (el at' : Bs) (seen : Bs) (q : UInt8) (f : Bool) (tl : Bs) (h : st ≤ 10) : RelM ⟨st, el, at', seen, q, f⟩ ⟨st, el, at', q, f, tl⟩ :=
  ⟨by show st ≤ 12; omega, rfl, rfl, rfl, rfl, rfl, (fun e => by have : st = 11 := e; omega), (fun e => by have : st = 12 := e; omega)⟩
theorem blank_ne {c : UInt8} (h : blankB c = true) : c ≠ 61 ∧ c ≠ 47 ∧ c ≠ 62 ∧ c ≠ 34 ∧ c ≠ 39 ∧ c ≠ 60 := by
  refine ⟨?_, ?_, ?_, ?_, ?_, ?_⟩ <;> (rintro rfl; revert h; decide)
theorem shut_rel (st : Nat) (el at' seen : Bs) (q : UInt8) (f : Bool) (tl : Bs) :
    RelM (if rawEl el = true then { st := 12, el := el, attr := at', seen := [], quote := q, filled := f } else { st := 0, el := el, attr := at', seen := seen, quote := q, filled := f }) (shutM ⟨st, el, at', q, f, tl⟩) := by
  unfold shutM
  cases h : rawEl el with
  | true =>
    simp only [h, if_true]
    exact ⟨Nat.le_refl _, rfl, rfl, rfl, rfl, rfl, (fun e => by cases e), (fun _ => ⟨h, rfl⟩)⟩
  | false =>
    simp only [h, Bool.false_eq_true, if_false]
    exact rel_mk 0 _ _ _ _ _ _ (by decide)
theorem step_rel {w : Walk} {m : Mach} (h : RelM w m) (c : UInt8) : RelM (stepW w c) (stepM m c) := by
  have hcases : m.st = 0 ∨ m.st = 1 ∨ m.st = 2 ∨ m.st = 3 ∨ m.st = 4 ∨ m.st = 5 ∨ m.st = 6 ∨ m.st = 7 ∨ m.st = 8 ∨ m.st = 9 ∨ m.st = 10 ∨ m.st = 11 ∨ m.st = 12 := by have := h.le; omega
  have h' := h
  obtain ⟨wst, wel, wattr, wseen, wq, wf⟩ := w
  obtain ⟨st, nm, at', q, f, tl⟩ := m
  obtain ⟨hle, hst, hel, hat, hq, hf, hb, hr⟩ := h
  dsimp only at hle hst hel hat hq hf hb hr hcases
  subst hst hel hat hq hf
  rcases hcases with rfl | rfl | rfl | rfl | rfl | rfl | rfl | rfl | rfl | rfl | rfl | rfl | rfl
  · -- text
    by_cases h1 : c = 60
    · simp [stepW, stepM, startW, textW, textM, h1]; exact rel_mk _ _ _ _ _ _ _ (by decide)
    · simp [stepW, stepM, startW, textW, textM, h1]; exact rel_mk _ _ _ _ _ _ _ (by decide)
  · -- open
    by_cases h1 : letterB c = true
    · simp [stepW, stepM, startW, openM, h1]; exact rel_mk _ _ _ _ _ _ _ (by decide)
    · by_cases h2 : c = 47
      · subst h2
        simp [stepW, stepM, startW, openM, h1]; exact rel_mk _ _ _ _ _ _ _ (by decide)
      · by_cases h3 : c = 33
        · subst h3
          simp [stepW, stepM, startW, openM, h1]
          exact ⟨by show 11 ≤ 12; decide, rfl, rfl, rfl, rfl, rfl, (fun _ => .inl rfl), (fun e => by cases e)⟩
        · by_cases h4 : c = 60
          · subst h4
            simp [stepW, stepM, startW, openM, textW, textM, h1]; exact rel_mk _ _ _ _ _ _ _ (by decide)
          · simp [stepW, stepM, startW, openM, textW, textM, h1, h2, h3, h4]; exact rel_mk _ _ _ _ _ _ _ (by decide)
  · -- close
    by_cases h1 : letterB c = true
    · simp [stepW, stepM, startW, closeM, h1]; exact rel_mk _ _ _ _ _ _ _ (by decide)
    · simp [stepW, stepM, startW, closeM, h1]
      exact bang_rel (w := ⟨11, wel, wattr, [], wq, wf⟩) (m := ⟨11, wel, wattr, wq, wf, []⟩) ⟨by show 11 ≤ 12; decide, rfl, rfl, rfl, rfl, rfl, (fun _ => .inl rfl), (fun e => by cases e)⟩ rfl (.inl rfl) c
  · -- name
    by_cases h1 : c = 62
    · subst h1
      simp [stepW, stepM, startW, tagM]; exact shut_rel _ _ _ _ _ _ _
    · by_cases h2 : blankB c = true
      · simp [stepW, stepM, startW, tagM, h1, h2]; exact rel_mk _ _ _ _ _ _ _ (by decide)
      · by_cases h3 : c = 47
        · subst h3
          simp [stepW, stepM, startW, tagM, h2]; exact rel_mk _ _ _ _ _ _ _ (by decide)
        · simp [stepW, stepM, startW, tagM, h1, h2, h3]; exact rel_mk _ _ _ _ _ _ _ (by decide)
  · -- end name
    by_cases h1 : c = 62
    · subst h1
      simp [stepW, stepM, startW]; exact rel_mk _ _ _ _ _ _ _ (by decide)
    · simp [stepW, stepM, startW, h1]; exact rel_mk _ _ _ _ _ _ _ (by decide)
  · -- tag
    by_cases h1 : c = 62
    · subst h1
      simp [stepW, stepM, startW, tagM]; exact shut_rel _ _ _ _ _ _ _
    · by_cases h2 : blankB c = true
      · simp [stepW, stepM, startW, tagM, h1, h2]; exact rel_mk _ _ _ _ _ _ _ (by decide)
      · by_cases h3 : c = 47
        · subst h3
          simp [stepW, stepM, startW, tagM, h2]; exact rel_mk _ _ _ _ _ _ _ (by decide)
        · simp [stepW, stepM, startW, tagM, h1, h2, h3]; exact rel_mk _ _ _ _ _ _ _ (by decide)
  · -- attribute
    by_cases h1 : c = 62
    · subst h1
      simp [stepW, stepM, startW, tagM]; exact shut_rel _ _ _ _ _ _ _
    · by_cases h2 : blankB c = true
      · simp [stepW, stepM, startW, tagM, h1, h2]; exact rel_mk _ _ _ _ _ _ _ (by decide)
      · by_cases h3 : c = 47
        · subst h3
          simp [stepW, stepM, startW, tagM, h2]; exact rel_mk _ _ _ _ _ _ _ (by decide)
        · by_cases h4 : c = 61
          · subst h4
            simp [stepW, stepM, startW, tagM, h2]; exact rel_mk _ _ _ _ _ _ _ (by decide)
          · simp [stepW, stepM, startW, tagM, h1, h2, h3, h4]; exact rel_mk _ _ _ _ _ _ _ (by decide)
  · -- after
    by_cases h1 : c = 62
    · subst h1
      simp [stepW, stepM, startW, tagM]; exact shut_rel _ _ _ _ _ _ _
    · by_cases h2 : blankB c = true
      · obtain ⟨n1, n2, _⟩ := blank_ne h2
        simp [stepW, stepM, startW, tagM, h1, h2, n1, n2]; exact rel_mk _ _ _ _ _ _ _ (by decide)
      · by_cases h3 : c = 47
        · subst h3
          simp [stepW, stepM, startW, tagM, h2]; exact rel_mk _ _ _ _ _ _ _ (by decide)
        · by_cases h4 : c = 61
          · subst h4
            simp [stepW, stepM, startW, tagM, h2]; exact rel_mk _ _ _ _ _ _ _ (by decide)
          · simp [stepW, stepM, startW, tagM, h1, h2, h3, h4]; exact rel_mk _ _ _ _ _ _ _ (by decide)
  · -- before
    by_cases h1 : c = 62
    · subst h1
      simp [stepW, stepM, startW, tagM]; exact shut_rel _ _ _ _ _ _ _
    · by_cases h2 : blankB c = true
      · obtain ⟨_, _, _, n3, n4, _⟩ := blank_ne h2
        simp [stepW, stepM, startW, tagM, h1, h2, n3, n4]; exact rel_mk _ _ _ _ _ _ _ (by decide)
      · by_cases h3 : c = 34 ∨ c = 39
        · simp [stepW, stepM, startW, tagM, h1, h2, h3]; exact rel_mk _ _ _ _ _ _ _ (by decide)
        · simp [stepW, stepM, startW, tagM, h1, h2, h3]; exact rel_mk _ _ _ _ _ _ _ (by decide)
  · -- value
    by_cases h1 : c = wq
    · simp [stepW, stepM, startW, h1]; exact rel_mk _ _ _ _ _ _ _ (by decide)
    · simp [stepW, stepM, startW, h1]; exact rel_mk _ _ _ _ _ _ _ (by decide)
  · -- bare
    by_cases h1 : c = 62
    · subst h1
      simp [stepW, stepM, startW, tagM]; exact shut_rel _ _ _ _ _ _ _
    · by_cases h2 : blankB c = true
      · simp [stepW, stepM, startW, tagM, h1, h2]; exact rel_mk _ _ _ _ _ _ _ (by decide)
      · simp [stepW, stepM, startW, tagM, h1, h2]; exact rel_mk _ _ _ _ _ _ _ (by decide)
  · -- remark
    have := bang_rel h' rfl (hb rfl) c
    simpa [stepW, stepM, startW] using this
  · -- raw
    have := raw_rel h' rfl c
    simpa [stepW, stepM, startW] using this
end Go.Proofs.YthilkpjdfjjikaaDoor
