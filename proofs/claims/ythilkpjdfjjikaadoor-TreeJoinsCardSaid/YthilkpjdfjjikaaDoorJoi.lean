/-
  Templates one behind the other: what the lexer makes of them, plain.
-/
import Derived.Test.YthilkpjdfjjikaaDoorPln
import Derived.Test.YthilkpjdfjjikaaDoorLayM
set_option linter.unusedVariables false
set_option linter.unusedSimpArgs false
namespace Go.Proofs.YthilkpjdfjjikaaDoor
open Go.RowKit

/-! ### Machines that go on alike -/
def EqM (m n : Mach) : Prop :=
  m.st ≤ 12 ∧ m.st = n.st ∧ ((m.st = 3 ∨ (5 ≤ m.st ∧ m.st ≤ 10) ∨ m.st = 12) → m.name = n.name) ∧ ((6 ≤ m.st ∧ m.st ≤ 9) → m.attr = n.attr) ∧ (m.st = 9 → m.quote = n.quote ∧ m.filled = n.filled) ∧ ((m.st = 11 ∨ m.st = 12) → m.tail = n.tail)
theorem eqM_self {m : Mach} (h : m.st ≤ 12) : EqM m m := ⟨h, rfl, fun _ => rfl, fun _ => rfl, fun _ => ⟨rfl, rfl⟩, fun _ => rfl⟩
theorem eqM_fill {m n : Mach} (h : EqM m n) : EqM { m with filled := true } { n with filled := true } :=
  ⟨h.1, h.2.1, h.2.2.1, h.2.2.2.1, fun h9 => ⟨(h.2.2.2.2.1 h9).1, rfl⟩, h.2.2.2.2.2⟩
theorem eqM_0 {m n : Mach} (h : m.st = 0) (h' : n.st = 0) : EqM m n := by
  refine ⟨by omega, by omega, ?_, ?_, ?_, ?_⟩ <;> (intro h2; omega)
theorem eqM_bang (nm at' : Bs) (q : UInt8) (f : Bool) (nm' at'' : Bs) (q' : UInt8) (f' : Bool) (tl : Bs) (c : UInt8) : EqM (bangM ⟨11, nm, at', q, f, tl⟩ c) (bangM ⟨11, nm', at'', q', f', tl⟩ c) := by
  unfold bangM
  dsimp only
  split
  · exact eqM_0 rfl rfl
  · split
    · exact ⟨by show 11 ≤ 12; decide, rfl, fun h => by simp at h, fun h => by simp at h, fun h => by simp at h, fun _ => rfl⟩
    · exact ⟨by show 11 ≤ 12; decide, rfl, fun h => by simp at h, fun h => by simp at h, fun h => by simp at h, fun _ => rfl⟩
theorem eqM_text (nm at' : Bs) (q : UInt8) (f : Bool) (tl : Bs) (nm' at'' : Bs) (q' : UInt8) (f' : Bool) (tl' : Bs) (c : UInt8) : EqM (textM ⟨0, nm, at', q, f, tl⟩ c) (textM ⟨0, nm', at'', q', f', tl'⟩ c) := by
  unfold textM
  split
  · exact ⟨by show 1 ≤ 12; decide, rfl, fun h => by simp at h, fun h => by simp at h, fun h => by simp at h, fun h => by simp at h⟩
  · exact eqM_0 rfl rfl
theorem eqM_mk {st : Nat} (h : st ≤ 12) (nm : Bs) (at' at'' : Bs) (q q' : UInt8) (f f' : Bool) (tl tl' : Bs) (h2 : (6 ≤ st ∧ st ≤ 9) → at' = at'') (h3 : st = 9 → q = q' ∧ f = f') (h4 : (st = 11 ∨ st = 12) → tl = tl') : EqM ⟨st, nm, at', q, f, tl⟩ ⟨st, nm, at'', q', f', tl'⟩ :=
  ⟨h, rfl, fun _ => rfl, h2, h3, h4⟩
theorem eqM_shut (st st' : Nat) (nm at' at'' : Bs) (q q' : UInt8) (f f' : Bool) (tl tl' : Bs) : EqM (shutM ⟨st, nm, at', q, f, tl⟩) (shutM ⟨st', nm, at'', q', f', tl'⟩) := by
  unfold shutM
  dsimp only
  split
  · exact eqM_mk (by decide) _ _ _ _ _ _ _ _ _ (by omega) (by omega) (fun _ => rfl)
  · exact eqM_0 rfl rfl
theorem eqM_tag (st : Nat) (hst : st = 3 ∨ (5 ≤ st ∧ st ≤ 8) ∨ st = 10) (nm at' at'' : Bs) (ha : (6 ≤ st ∧ st ≤ 9) → at' = at'') (q q' : UInt8) (f f' : Bool) (tl tl' : Bs) (c : UInt8) : EqM (tagM ⟨st, nm, at', q, f, tl⟩ c) (tagM ⟨st, nm, at'', q', f', tl'⟩ c) := by
  unfold tagM
  dsimp only
  have hle : st ≤ 12 := by omega
  have h9 : st ≠ 9 := by omega
  have h11 : ¬ (st = 11 ∨ st = 12) := by omega
  split
  · exact eqM_shut _ _ _ _ _ _ _ _ _ _ _
  · split
    · rename_i h
      have ha := ha (by omega)
      subst ha
      split
      · exact eqM_mk (by decide) _ _ _ _ _ _ _ _ _ (fun _ => rfl) (fun _ => ⟨rfl, rfl⟩) (by omega)
      · exact eqM_mk (by decide) _ _ _ _ _ _ _ _ _ (fun _ => rfl) (by omega) (by omega)
    · split
      · exact eqM_mk hle _ _ _ _ _ _ _ _ _ ha (fun h => absurd h h9) (fun h => absurd h h11)
      · split
        · rename_i h
          have ha := ha (by omega)
          subst ha
          exact eqM_mk (by decide) _ _ _ _ _ _ _ _ _ (fun _ => rfl) (by omega) (by omega)
        · split
          · exact eqM_mk hle _ _ _ _ _ _ _ _ _ ha (fun h => absurd h h9) (fun h => absurd h h11)
          · split
            · exact eqM_mk (by decide) _ _ _ _ _ _ _ _ _ (by omega) (by omega) (by omega)
            · split
              · rename_i h
                have ha := ha (by omega)
                subst ha
                exact eqM_mk (by decide) _ _ _ _ _ _ _ _ _ (fun _ => rfl) (by omega) (by omega)
              · split
                · exact eqM_mk hle _ _ _ _ _ _ _ _ _ ha (fun h => absurd h h9) (fun h => absurd h h11)
                · split
                  · rename_i h
                    have ha := ha (by omega)
                    subst ha
                    exact eqM_mk hle _ _ _ _ _ _ _ _ _ (fun _ => rfl) (fun h => absurd h h9) (fun h => absurd h h11)
                  · exact eqM_mk (by decide) _ _ _ _ _ _ _ _ _ (fun _ => rfl) (by omega) (by omega)
theorem eqM_step {m n : Mach} (h : EqM m n) (c : UInt8) : EqM (stepM m c) (stepM n c) := by
  obtain ⟨st, nm, at', q, f, tl⟩ := m
  obtain ⟨st', nm', at'', q', f', tl'⟩ := n
  obtain ⟨hle, he, h1, h2, h3, h4⟩ := h
  dsimp only at hle he h1 h2 h3 h4
  subst he
  unfold stepM
  dsimp only
  by_cases e0 : st = 0
  · subst e0; rw [if_pos rfl, if_pos rfl]; exact eqM_text _ _ _ _ _ _ _ _ _ _ _
  · rw [if_neg e0, if_neg e0]
    by_cases e1 : st = 1
    · subst e1; rw [if_pos rfl, if_pos rfl]
      unfold openM
      split
      · exact eqM_mk (by decide) _ _ _ _ _ _ _ _ _ (by omega) (by omega) (by omega)
      · split
        · exact ⟨by show 2 ≤ 12; decide, rfl, fun h => by simp at h, fun h => by simp at h, fun h => by simp at h, fun h => by simp at h⟩
        · split
          · exact ⟨by show 11 ≤ 12; decide, rfl, fun h => by simp at h, fun h => by simp at h, fun h => by simp at h, fun _ => rfl⟩
          · exact eqM_text _ _ _ _ _ _ _ _ _ _ _
    · rw [if_neg e1, if_neg e1]
      by_cases e2 : st = 2
      · subst e2; rw [if_pos rfl, if_pos rfl]
        unfold closeM
        split
        · exact ⟨by show 4 ≤ 12; decide, rfl, fun h => by simp at h, fun h => by simp at h, fun h => by simp at h, fun h => by simp at h⟩
        · exact eqM_bang _ _ _ _ _ _ _ _ _ _
      · rw [if_neg e2, if_neg e2]
        by_cases e4 : st = 4
        · subst e4; rw [if_pos rfl, if_pos rfl]
          split
          · exact eqM_0 rfl rfl
          · exact ⟨hle, rfl, fun h => by simp at h, fun h => by simp at h, fun h => by simp at h, fun h => by simp at h⟩
        · rw [if_neg e4, if_neg e4]
          by_cases e9 : st = 9
          · subst e9; rw [if_pos rfl, if_pos rfl]
            obtain rfl := h1 (by omega)
            obtain rfl := h2 (by omega)
            obtain ⟨rfl, rfl⟩ := h3 rfl
            split
            · exact eqM_mk (by decide) _ _ _ _ _ _ _ _ _ (by omega) (by omega) (by omega)
            · exact eqM_mk (by decide) _ _ _ _ _ _ _ _ _ (fun _ => rfl) (fun _ => ⟨rfl, rfl⟩) (by omega)
          · rw [if_neg e9, if_neg e9]
            by_cases e11 : st = 11
            · subst e11; rw [if_pos rfl, if_pos rfl]
              obtain rfl := h4 (.inl rfl)
              exact eqM_bang _ _ _ _ _ _ _ _ _ _
            · rw [if_neg e11, if_neg e11]
              by_cases e12 : st = 12
              · subst e12; rw [if_pos rfl, if_pos rfl]
                obtain rfl := h1 (by omega)
                obtain rfl := h4 (.inr rfl)
                unfold rawM
                dsimp only
                split
                · exact eqM_mk (by decide) _ _ _ _ _ _ _ _ _ (by omega) (by omega) (by omega)
                · exact eqM_mk (by decide) _ _ _ _ _ _ _ _ _ (by omega) (by omega) (fun _ => rfl)
              · rw [if_neg e12, if_neg e12]
                obtain rfl := h1 (by omega)
                exact eqM_tag st (by omega) _ _ _ h2 _ _ _ _ _ _ _
theorem eqM_fold : ∀ (l : Bs) {m n : Mach}, EqM m n → EqM (l.foldl stepM m) (l.foldl stepM n)
  | [], _, _, h => h
  | c :: l, _, _, h => by rw [List.foldl_cons, List.foldl_cons]; exact eqM_fold l (eqM_step h c)
theorem eqM_place {m n : Mach} (h : EqM m n) : placeL m.st m.attr m.filled = placeL n.st n.attr n.filled := by
  obtain ⟨_, h1, _, h2, h3, _⟩ := h
  by_cases h9 : m.st = 9
  · rw [h2 (by omega), (h3 h9).2, h1]
  · rw [← h1]
    unfold placeL
    by_cases h0 : m.st = 0
    · rw [if_pos h0, if_pos h0]
    · rw [if_neg h0, if_neg h0, if_pos (.inl h9), if_pos (.inl h9)]

/-! ### Where a mark is, in texts one behind the other -/
theorem index_more (sub u : Bs) : ∀ t : Bs, 0 ≤ Lib.index t sub → Lib.index (t ++ u) sub = Lib.index t sub
  | [], h => by
    unfold Lib.index at h
    cases sub with
    | nil => cases u <;> simp [Lib.index, List.isPrefixOf]
    | cons a r => simp at h
  | b :: l, h => by
    have hroom := index_room sub (b :: l) h
    rw [List.cons_append]
    unfold Lib.index at h ⊢
    by_cases hp : sub.isPrefixOf (b :: l) = true
    · have hp2 : sub.isPrefixOf (b :: (l ++ u)) = true := by
        rw [List.isPrefixOf_iff_prefix] at hp ⊢
        exact hp.trans (List.prefix_append (b :: l) u)
      rw [if_pos hp, if_pos hp2]
    · have hp2 : ¬ sub.isPrefixOf (b :: (l ++ u)) = true := by
        intro h2
        apply hp
        rw [List.isPrefixOf_iff_prefix] at h2 ⊢
        refine List.prefix_of_prefix_length_le h2 (List.prefix_append (b :: l) u) ?_
        omega
      rw [if_neg hp] at h ⊢
      rw [if_neg hp2]
      by_cases hi : (Lib.index l sub == -1) = true
      · rw [if_pos hi] at h; exact absurd h (by decide)
      · have hge := Lib.index_ge l sub
        have hne : Lib.index l sub ≠ -1 := by simpa using hi
        rw [if_neg hi, index_more sub u l (by omega), if_neg hi]
theorem cut_more (t u sep lit rest : Bs) (h : Lib.cut t sep = (lit, rest, true)) : Lib.cut (t ++ u) sep = (lit, rest ++ u, true) := by
  unfold Lib.cut at h ⊢
  by_cases hi : 0 ≤ Lib.index t sep
  · have hroom := index_room sep t hi
    rw [if_pos hi] at h
    rw [index_more sep u t hi, if_pos hi]
    injection h with h1 h
    injection h with h2 _
    rw [← h1, ← h2, List.take_append_of_le_length (by omega), List.drop_append_of_le_length (by omega)]
  · rw [if_neg hi] at h
    injection h with _ h
    injection h with _ h
    cases h
theorem index_cons (a b x : UInt8) (l : Bs) : Lib.index (x :: l) [a, b] = if [a, b].isPrefixOf (x :: l) = true then 0 else if Lib.index l [a, b] = -1 then -1 else Lib.index l [a, b] + 1 := by
  conv => lhs; unfold Lib.index
  split
  · rfl
  · by_cases h : Lib.index l [a, b] = -1
    · rw [if_pos h, if_pos (by rw [h]; rfl)]
    · rw [if_neg h, if_neg (by simpa using h)]
theorem index_skip (a b e : UInt8) (he : e ≠ a) (u : Bs) : ∀ t0 : Bs, Lib.index (t0 ++ [e]) [a, b] = -1 → Lib.index (t0 ++ [e] ++ u) [a, b] = if Lib.index u [a, b] = -1 then -1 else ((t0 ++ [e]).length : Int) + Lib.index u [a, b]
  | [], _ => by
    rw [List.nil_append, List.singleton_append, index_cons]
    have hp : [a, b].isPrefixOf (e :: u) = false := by
      have hae : (a == e) = false := by rw [beq_eq_false_iff_ne]; exact fun h => he h.symm
      simp [List.isPrefixOf, hae]
    rw [if_neg (by rw [hp]; decide)]
    split
    · rfl
    · rw [List.length_singleton]; omega
  | x :: t0, h => by
    rw [List.cons_append, List.cons_append, index_cons] 
    rw [List.cons_append, index_cons] at h
    obtain ⟨y, r, hy⟩ : ∃ y r, t0 ++ [e] = y :: r := by
      cases t0 with
      | nil => exact ⟨_, _, rfl⟩
      | cons y r => exact ⟨y, r ++ [e], rfl⟩
    have hpe : [a, b].isPrefixOf (x :: (t0 ++ [e] ++ u)) = [a, b].isPrefixOf (x :: (t0 ++ [e])) := by
      rw [hy, List.cons_append]
      simp [List.isPrefixOf]
    rw [hpe]
    by_cases hp : [a, b].isPrefixOf (x :: (t0 ++ [e])) = true
    · rw [if_pos hp] at h; exact absurd h (by decide)
    · rw [if_neg hp] at h ⊢
      have hge := Lib.index_ge (t0 ++ [e]) [a, b]
      have h1 : Lib.index (t0 ++ [e]) [a, b] = -1 := by
        by_cases h1 : Lib.index (t0 ++ [e]) [a, b] = -1
        · exact h1
        · rw [if_neg h1] at h; omega
      rw [index_skip a b e he u t0 h1]
      have hgu := Lib.index_ge u [a, b]
      by_cases hu : Lib.index u [a, b] = -1
      · rw [if_pos hu, if_pos hu, if_pos rfl]
      · rw [if_neg hu, if_neg hu, if_neg (by omega), List.length_cons]; omega
theorem cut_skip (a b e : UInt8) (he : e ≠ a) (t0 u : Bs) (h : (Lib.cut (t0 ++ [e]) [a, b]).2.2 = false) : Lib.cut (t0 ++ [e] ++ u) [a, b] = (t0 ++ [e] ++ (Lib.cut u [a, b]).1, (Lib.cut u [a, b]).2.1, (Lib.cut u [a, b]).2.2) := by
  have hge := Lib.index_ge (t0 ++ [e]) [a, b]
  have h1 : Lib.index (t0 ++ [e]) [a, b] = -1 := by
    by_cases h1 : Lib.index (t0 ++ [e]) [a, b] = -1
    · exact h1
    · unfold Lib.cut at h
      rw [if_pos (by omega)] at h
      cases h
  have hs := index_skip a b e he u t0 h1
  have hgu := Lib.index_ge u [a, b]
  unfold Lib.cut
  rw [hs]
  by_cases hu : Lib.index u [a, b] = -1
  · rw [if_pos hu, if_neg (by decide), if_neg (by omega)]
  · rw [if_neg hu, if_pos (by omega), if_pos (by omega)]
    obtain ⟨i, hi⟩ : ∃ i : Nat, Lib.index u [a, b] = i := ⟨(Lib.index u [a, b]).toNat, by omega⟩
    rw [hi]
    have e1 : (((t0 ++ [e]).length : Int) + (i : Int)).toNat = (t0 ++ [e]).length + i := by omega
    rw [e1, Int.toNat_natCast, List.take_length_add_append, Nat.add_assoc, List.drop_length_add_append]

/-! ### What the lexer takes -/
def litL (k : Nat) (lit : Bs) : List Piece := if lit = [] then [] else [⟨0, k, lit, [], [], 0⟩]
def plc (m : Mach) : Nat × Bool := placeL m.st m.attr m.filled
inductive LexOk : Bs → Nat → Mach → List Piece → Prop
  | lit (t : Bs) (k : Nat) (m : Mach) : (Lib.cut t [123, 123]).2.2 = false → (t.foldl stepM m).st = 0 → LexOk t k m (litL k t)
  | tag (t : Bs) (k : Nat) (m : Mach) (lit rest words rest' : Bs) (p : Piece) (ps : List Piece) : Lib.cut t [123, 123] = (lit, rest, true) → tagL words = some p → Lib.cut rest [125, 125] = (words, rest', true) →
      (plc (lit.foldl stepM m)).2 = true → (p.kind = 1 ∨ (plc (lit.foldl stepM m)).1 = 0) → LexOk rest' (k + lit.length + (words.length + 4)) { (lit.foldl stepM m) with filled := true } ps →
      LexOk t k m (litL k lit ++ (⟨p.kind, k + lit.length, [], p.path, p.name, (plc (lit.foldl stepM m)).1⟩ :: ps))
theorem cut_no (t sep : Bs) (h : (Lib.cut t sep).2.2 = false) : (Lib.cut t sep).1 = t := by
  unfold Lib.cut at h ⊢
  by_cases hi : 0 ≤ Lib.index t sep
  · rw [if_pos hi] at h; cases h
  · rw [if_neg hi]
theorem lexFrom_stepJ (s : Bs) (F k : Nat) (m : Mach) (out : List Piece) (hkn : k < s.length) (lit rest words rest2 : Bs) (more whole : Bool) (hcut : Lib.cut (s.drop k) [123, 123] = (lit, rest, more)) (hcut2 : Lib.cut rest [125, 125] = (words, rest2, whole)) :
    lexFrom s (F + 1) k m out = if more = false then lexEnd s.length (lit.foldl stepM m) (litP k lit out) else
        match tagL words with
        | none => ⟨[], k + lit.length, 170⟩
        | some p => if whole = false then ⟨[], k + lit.length, 170⟩
          else if (placeL (lit.foldl stepM m).st (lit.foldl stepM m).attr (lit.foldl stepM m).filled).2 = false ∨ (p.kind ≠ 1 ∧ (placeL (lit.foldl stepM m).st (lit.foldl stepM m).attr (lit.foldl stepM m).filled).1 ≠ 0) then ⟨[], k + lit.length, 171⟩
          else lexFrom s F (k + lit.length + (words.length + 4)) { (lit.foldl stepM m) with filled := true } (litP k lit out ++ [⟨p.kind, k + lit.length, [], p.path, p.name, (placeL (lit.foldl stepM m).st (lit.foldl stepM m).attr (lit.foldl stepM m).filled).1⟩]) := by
  rw [lexFrom, if_pos hkn, hcut]
  dsimp only
  rw [hcut2]
  rfl
theorem lex_end0 (k : Nat) (m : Mach) (h : m.st = 0) : LexOk [] k m [] := LexOk.lit [] k m rfl h
theorem lexFrom_to (s : Bs) : ∀ (F k : Nat) (m : Mach) (out : List Piece), s.length - k < F → k ≤ s.length →
    (lexFrom s F k m out).err = 0 → ∃ ps, (lexFrom s F k m out).out = out ++ ps ∧ LexOk (s.drop k) k m ps
  | 0, k, m, out, h, _ => by omega
  | F + 1, k, m, out, h, hk => by
    by_cases hkn : k < s.length
    · obtain ⟨lit, rest, more, hcut⟩ : ∃ lit rest more, Lib.cut (s.drop k) [123, 123] = (lit, rest, more) := ⟨_, _, _, rfl⟩
      obtain ⟨words, rest2, whole, hcut2⟩ : ∃ words rest2 whole, Lib.cut rest [125, 125] = (words, rest2, whole) := ⟨_, _, _, rfl⟩
      rw [lexFrom_stepJ s F k m out hkn lit rest words rest2 more whole hcut hcut2]
      have hdl : (s.drop k).length = s.length - k := List.length_drop
      rcases cut2 _ _ _ _ _ _ hcut with ⟨rfl, hlit⟩ | ⟨rfl, hlit, hrest, h2, hroom, _⟩
      · rw [if_pos rfl]
        intro h0
        refine ⟨litL k lit, ?_, ?_⟩
        · rw [lexEnd_ok _ _ _ h0, litP_eq]; rfl
        · rw [hlit] at h0 ⊢
          refine LexOk.lit (s.drop k) k m (by rw [hcut]) ?_
          unfold lexEnd at h0
          by_cases h00 : ((s.drop k).foldl stepM m).st = 0
          · exact h00
          · rw [if_neg h00] at h0; exact absurd h0 (show (171 : Nat) ≠ 0 by decide)
      · rw [if_neg (by decide)]
        have hkl : k + lit.length ≤ s.length := by omega
        cases ht : tagL words with
        | none => exact fun h0 => absurd h0 (show (170 : Nat) ≠ 0 by decide)
        | some p =>
          dsimp only
          cases whole with
          | false =>
            rw [if_pos rfl]
            exact fun h0 => absurd h0 (show (170 : Nat) ≠ 0 by decide)
          | true =>
            rw [if_neg (by decide)]
            by_cases hb : (placeL (lit.foldl stepM m).st (lit.foldl stepM m).attr (lit.foldl stepM m).filled).2 = false ∨ (p.kind ≠ 1 ∧ (placeL (lit.foldl stepM m).st (lit.foldl stepM m).attr (lit.foldl stepM m).filled).1 ≠ 0)
            · rw [if_pos hb]
              exact fun h0 => absurd h0 (show (171 : Nat) ≠ 0 by decide)
            · rw [if_neg hb]
              rcases cut2 _ _ _ _ _ _ hcut2 with ⟨hf, _⟩ | ⟨_, hw, hrest2, h2', hroom2, hno⟩
              · cases hf
              · have hrl : rest.length = s.length - k - (lit.length + 2) := by rw [hrest, List.length_drop, hdl]
                intro h0
                obtain ⟨ps, ho, hL⟩ := lexFrom_to s F (k + lit.length + (words.length + 4)) { (lit.foldl stepM m) with filled := true } (litP k lit out ++ [⟨p.kind, k + lit.length, [], p.path, p.name, (placeL (lit.foldl stepM m).st (lit.foldl stepM m).attr (lit.foldl stepM m).filled).1⟩]) (by omega) (by omega) h0
                refine ⟨litL k lit ++ (⟨p.kind, k + lit.length, [], p.path, p.name, (plc (lit.foldl stepM m)).1⟩ :: ps), ?_, ?_⟩
                · rw [ho, litP_eq]; simp [litL, plc]
                · have hr2 : s.drop (k + lit.length + (words.length + 4)) = rest2 := by
                    rw [hrest2, hrest, List.drop_drop, List.drop_drop]; congr 1; omega
                  rw [hr2] at hL
                  refine LexOk.tag (s.drop k) k m lit rest words rest2 p ps hcut ht hcut2 ?_ ?_ hL
                  · unfold plc
                    cases hq : (placeL (lit.foldl stepM m).st (lit.foldl stepM m).attr (lit.foldl stepM m).filled).2 with
                    | true => rfl
                    | false => exact absurd (.inl hq) hb
                  · unfold plc
                    by_cases h1 : p.kind = 1
                    · exact .inl h1
                    · refine .inr (Classical.byContradiction fun h2 => hb (.inr ⟨h1, h2⟩))
    · rw [lexFrom, if_neg hkn]
      intro h0
      refine ⟨[], by rw [lexEnd_ok _ _ _ h0, List.append_nil], ?_⟩
      rw [List.drop_eq_nil_of_le (by omega)]
      refine lex_end0 k m ?_
      unfold lexEnd at h0
      by_cases h00 : m.st = 0
      · exact h00
      · rw [if_neg h00] at h0; exact absurd h0 (show (171 : Nat) ≠ 0 by decide)
theorem lexFrom_of (s : Bs) {t : Bs} {k : Nat} {m : Mach} {ps : List Piece} (h : LexOk t k m ps) : ∀ (F : Nat) (out : List Piece), s.length - k < F → k ≤ s.length → t = s.drop k → lexFrom s F k m out = ⟨out ++ ps, 0, 0⟩ := by
  induction h with
  | lit t k m h1 h2 =>
    intro F out hF hk ht
    obtain ⟨F, rfl⟩ : ∃ F', F = F' + 1 := ⟨F - 1, by omega⟩
    by_cases hkn : k < s.length
    · have hc : Lib.cut (s.drop k) [123, 123] = (t, (Lib.cut t [123, 123]).2.1, false) := by
        rw [← ht, ← h1]
        exact Prod.ext (cut_no t _ h1) rfl
      rw [lexFrom_stepJ s F k m out hkn _ _ _ _ _ _ hc rfl, if_pos rfl]
      unfold lexEnd
      rw [if_pos h2, litP_eq]; rfl
    · rw [List.drop_eq_nil_of_le (by omega)] at ht
      subst ht
      have h2 : m.st = 0 := h2
      rw [lexFrom, if_neg hkn]
      unfold lexEnd
      rw [if_pos h2]
      simp [litL]
  | tag t k m lit rest words rest' p ps h1 h2 h3 h4 h5 _ ih =>
    intro F out hF hk ht
    obtain ⟨F, rfl⟩ : ∃ F', F = F' + 1 := ⟨F - 1, by omega⟩
    rw [ht] at h1
    have hdl : (s.drop k).length = s.length - k := List.length_drop
    rcases cut2 _ _ _ _ _ _ h1 with ⟨hf, _⟩ | ⟨_, hlit, hrest, h2', hroom, _⟩
    · cases hf
    rcases cut2 _ _ _ _ _ _ h3 with ⟨hf, _⟩ | ⟨_, hw, hrest2, h2'', hroom2, hno⟩
    · cases hf
    have hrl : rest.length = s.length - k - (lit.length + 2) := by rw [hrest, List.length_drop, hdl]
    rw [lexFrom_stepJ s F k m out (by omega) lit rest words rest' true true h1 h3, if_neg (by decide), h2]
    dsimp only
    rw [if_neg (by decide)]
    have hb : ¬ ((placeL (lit.foldl stepM m).st (lit.foldl stepM m).attr (lit.foldl stepM m).filled).2 = false ∨ (p.kind ≠ 1 ∧ (placeL (lit.foldl stepM m).st (lit.foldl stepM m).attr (lit.foldl stepM m).filled).1 ≠ 0)) := by
      rintro (h | ⟨h, h'⟩)
      · unfold plc at h4; rw [h] at h4; cases h4
      · rcases h5 with h5 | h5
        · exact h h5
        · exact h' h5
    rw [if_neg hb, ih F _ (by omega) (by omega) (by rw [hrest2, hrest, List.drop_drop, List.drop_drop]; congr 1; omega), litP_eq]
    simp [litL, plc]

/-! ### Good bytes -/
theorem bad_to : ∀ (F : Nat) (s : Bs) (i : Nat), s.length ≤ F → badFrom F s i = none → ∃ ps : List Nat, s = ps.flatMap oneL ∧ ∀ p ∈ ps, isPt (p : Int) = true
  | _, [], _, _, _ => ⟨[], rfl, fun _ h => by cases h⟩
  | 0, x :: r, _, h, _ => by simp at h
  | F + 1, x :: r, i, hF, h => by
    unfold badFrom at h
    by_cases h0 : (readL (x :: r)).1 < 0
    · rw [if_pos h0] at h; cases h
    · rw [if_neg h0] at h
      have hle := readL_le x r
      obtain ⟨ps, h1, h2⟩ := bad_to F _ _ (by rw [List.length_drop]; rw [List.length_cons] at hF ⊢; omega) h
      have ho := one_read x r (by omega)
      have hp := readL_pt x r (by omega)
      refine ⟨(readL (x :: r)).1.toNat :: ps, ?_, ?_⟩
      · rw [List.flatMap_cons, ← h1, ho, List.take_append_drop]
      · intro p hpp
        rcases List.mem_cons.1 hpp with rfl | hpp
        · rw [show (((readL (x :: r)).1.toNat : Nat) : Int) = (readL (x :: r)).1 from by omega]; exact hp
        · exact h2 p hpp
theorem badL_append (a b : Bs) (ha : badL a = none) (hb : badL b = none) : badL (a ++ b) = none := by
  obtain ⟨ps, h1, h2⟩ := bad_to _ a 0 (Nat.le_refl _) ha
  obtain ⟨qs, h3, h4⟩ := bad_to _ b 0 (Nat.le_refl _) hb
  unfold badL
  rw [show a ++ b = (ps ++ qs).flatMap oneL from by rw [List.flatMap_append, ← h1, ← h3]]
  refine bad_pts _ _ 0 fun p hp => ?_
  rcases List.mem_append.1 hp with hp | hp
  · exact h2 p hp
  · exact h4 p hp
theorem lexL_to (s : Bs) (h : (lexL s).err = 0) : s.length ≤ 20000 ∧ badL s = none ∧ LexOk s 0 mach0 (lexL s).out := by
  unfold lexL at h ⊢
  split at h
  · exact absurd h (show (72 : Nat) ≠ 0 by decide)
  · rename_i hn
    rw [if_neg hn]
    cases hb : badL s with
    | some i => rw [hb] at h; exact absurd h (show (20 : Nat) ≠ 0 by decide)
    | none =>
      rw [hb] at h
      obtain ⟨ps, ho, hL⟩ := lexFrom_to s (s.length + 1) 0 mach0 [] (by omega) (by omega) h
      refine ⟨by omega, rfl, ?_⟩
      show LexOk s 0 mach0 (lexFrom s (s.length + 1) 0 mach0 []).out
      rw [ho]; exact hL
theorem lexL_of (s : Bs) (ps : List Piece) (h : s.length ≤ 20000) (hb : badL s = none) (hL : LexOk s 0 mach0 ps) : lexL s = ⟨ps, 0, 0⟩ := by
  unfold lexL
  rw [if_neg (by omega), hb]
  exact lexFrom_of s hL (s.length + 1) [] (by omega) (by omega) rfl

/-! ### One behind the other -/
def shP (K : Nat) (p : Piece) : Piece := ⟨p.kind, p.pos + K, p.text, p.path, p.name, p.place⟩
theorem litL_sh (K k : Nat) (lit : Bs) : (litL k lit).map (shP K) = litL (k + K) lit := by
  unfold litL
  split <;> rfl
theorem lex_shift (K : Nat) {t : Bs} {k : Nat} {m : Mach} {ps : List Piece} (h : LexOk t k m ps) : ∀ n, EqM m n → LexOk t (k + K) n (ps.map (shP K)) := by
  induction h with
  | lit t k m h1 h2 =>
    intro n hn
    rw [litL_sh]
    exact LexOk.lit t (k + K) n h1 (by rw [← (eqM_fold t hn).2.1]; exact h2)
  | tag t k m lit rest words rest' p ps h1 h2 h3 h4 h5 _ ih =>
    intro n hn
    have hf := eqM_fold lit hn
    have hp : plc (lit.foldl stepM m) = plc (lit.foldl stepM n) := eqM_place hf
    rw [hp] at h4 h5
    have := LexOk.tag t (k + K) n lit rest words rest' p (ps.map (shP K)) h1 h2 h3 h4 h5 (by
      have := ih _ (eqM_fill hf)
      rw [show k + lit.length + (words.length + 4) + K = k + K + lit.length + (words.length + 4) from by omega] at this
      exact this)
    rw [List.map_append, List.map_cons, litL_sh]
    rw [← hp] at this
    unfold shP at this ⊢
    dsimp only
    rw [show k + lit.length + K = k + K + lit.length from by omega]
    exact this
theorem cut_bar (r : Bs) (lit rest : Bs) (more : Bool) (h : Lib.cut (124 :: r) [123, 123] = (lit, rest, more)) : ∃ r', lit = 124 :: r' := by
  rcases cut2 _ _ _ _ _ _ h with ⟨_, rfl⟩ | ⟨_, hlit, _, h2, _, _⟩
  · exact ⟨r, rfl⟩
  · cases lit with
    | nil =>
      simp only [List.length_nil, List.drop_zero, List.take_succ_cons] at h2
      injection h2 with h2 _
      exact absurd h2 (by decide)
    | cons x l =>
      rw [List.length_cons, List.take_succ_cons] at hlit
      injection hlit with h1 _
      exact ⟨l, by rw [h1]⟩
theorem lex_join {t : Bs} {k : Nat} {m : Mach} {ps : List Piece} (h : LexOk t k m ps) : ∀ (a b : Bs) (ys : List Piece), t = a ++ [124] → LexOk (124 :: b) 0 mach0 ys →
    ∃ xs k1 l r ys', ps = xs ++ [⟨0, k1, l, [], [], 0⟩] ∧ ys = ⟨0, 0, r, [], [], 0⟩ :: ys' ∧ LexOk (t ++ 124 :: b) k m (xs ++ (⟨0, k1, l ++ r, [], [], 0⟩ :: ys'.map (shP (k + t.length)))) := by
  induction h with
  | lit t k m h1 h2 =>
    intro a b ys ht hy
    subst ht
    have hne : a ++ [124] ≠ ([] : Bs) := by simp
    have hcs := cut_skip 123 123 124 (by decide) a (124 :: b) h1
    have hll : litL k (a ++ [124]) = [⟨0, k, a ++ [124], [], [], 0⟩] := by unfold litL; rw [if_neg hne]
    have hE : EqM mach0 ((a ++ [124]).foldl stepM m) := eqM_0 rfl h2
    cases hy with
    | lit _ _ _ g1 g2 =>
      refine ⟨[], k, a ++ [124], 124 :: b, [], by rw [hll]; rfl, rfl, ?_⟩
      have := LexOk.lit (a ++ [124] ++ 124 :: b) k m (by rw [hcs]; exact g1) (by rw [List.foldl_append, ← (eqM_fold (124 :: b) hE).2.1]; exact g2)
      unfold litL at this
      rw [if_neg (by simp)] at this
      exact this
    | tag _ _ _ lit rest words rest' p qs g1 g2 g3 g4 g5 g6 =>
      obtain ⟨r, rfl⟩ := cut_bar b lit rest true g1
      rw [g1] at hcs
      dsimp only at hcs
      have hf := eqM_fold (124 :: r) hE
      rw [← List.foldl_append] at hf
      have hp : plc ((124 :: r : Bs).foldl stepM mach0) = plc ((a ++ [124] ++ 124 :: r).foldl stepM m) := eqM_place hf
      have g6' := lex_shift (k + (a ++ [124]).length) g6 _ (eqM_fill hf)
      rw [hp] at g4 g5
      have := LexOk.tag _ k m (a ++ [124] ++ 124 :: r) rest words rest' p (qs.map (shP (k + (a ++ [124]).length))) hcs g2 g3 g4 g5 (by
        rw [show k + (a ++ [124] ++ 124 :: r : Bs).length + (words.length + 4) = 0 + (124 :: r : Bs).length + (words.length + 4) + (k + (a ++ [124] : Bs).length) from by rw [List.length_append]; omega]
        exact g6')
      refine ⟨[], k, a ++ [124], 124 :: r, ⟨p.kind, (124 :: r : Bs).length, [], p.path, p.name, (plc ((124 :: r : Bs).foldl stepM mach0)).1⟩ :: qs, by rw [hll]; rfl, ?_, ?_⟩
      · unfold litL
        rw [if_neg (by simp), Nat.zero_add]; rfl
      · unfold litL at this
        rw [if_neg (by simp)] at this
        rw [hp]
        rw [show k + (a ++ [124] ++ 124 :: r : Bs).length = (124 :: r : Bs).length + (k + (a ++ [124] : Bs).length) from by rw [List.length_append]; omega] at this
        exact this
  | tag t k m lit rest words rest' p ps h1 h2 h3 h4 h5 _ ih =>
    intro a b ys ht hy
    rcases cut2 _ _ _ _ _ _ h1 with ⟨hf, _⟩ | ⟨_, hlit, hrest, h2', hroom, _⟩
    · cases hf
    rcases cut2 _ _ _ _ _ _ h3 with ⟨hf, _⟩ | ⟨_, hw, hrest2, h2'', hroom2, hno⟩
    · cases hf
    have hr' : rest' = t.drop (lit.length + 2 + (words.length + 2)) := by rw [hrest2, hrest, List.drop_drop]
    have hrl : rest.length = t.length - (lit.length + 2) := by rw [hrest, List.length_drop]
    have hle : lit.length + 2 + (words.length + 2) ≤ t.length := by omega
    have htl : t.length = a.length + 1 := by rw [ht, List.length_append]; rfl
    have hle2 : lit.length + 2 + (words.length + 2) ≤ a.length := by
      refine Classical.byContradiction fun hn => ?_
      rw [hrest, List.drop_drop, ht] at h2''
      have e : (a ++ [124] : Bs).drop (lit.length + 2 + words.length) = a.drop (lit.length + 2 + words.length) ++ [124] := List.drop_append_of_le_length (by omega)
      rw [e] at h2''
      have hl1 : (a.drop (lit.length + 2 + words.length)).length = 1 := by rw [List.length_drop]; omega
      generalize a.drop (lit.length + 2 + words.length) = d at h2'' hl1
      match d, hl1, h2'' with
      | [x], _, h2'' =>
        have h2'' : [x, 124] = [125, 125] := h2''
        injection h2'' with _ h2''
        injection h2'' with h2'' _
        exact absurd h2'' (by decide)
    obtain ⟨xs, k1, l, r, ys', e1, e2, e3⟩ := ih (a.drop (lit.length + 2 + (words.length + 2))) b ys (by rw [hr', ht]; exact List.drop_append_of_le_length hle2) hy
    refine ⟨litL k lit ++ (⟨p.kind, k + lit.length, [], p.path, p.name, (plc (lit.foldl stepM m)).1⟩ :: xs), k1, l, r, ys', by rw [e1]; simp, e2, ?_⟩
    have := LexOk.tag _ k m lit _ words _ p _ (cut_more t (124 :: b) _ lit rest h1) h2 (cut_more rest (124 :: b) _ words rest' h3) h4 h5 e3
    have el : k + lit.length + (words.length + 4) + rest'.length = k + t.length := by rw [hr', List.length_drop]; omega
    rw [el] at this
    rw [List.append_assoc, List.cons_append]
    exact this
theorem lexL_join (a b : Bs) (ha : a.length ≤ 2000) (hb : b.length ≤ 2000) (hx : (lexL (a ++ [124])).err = 0) (hy : (lexL (124 :: b)).err = 0) :
    ∃ xs k1 l r ys', (lexL (a ++ [124])).out = xs ++ [⟨0, k1, l, [], [], 0⟩] ∧ (lexL (124 :: b)).out = ⟨0, 0, r, [], [], 0⟩ :: ys' ∧ lexL (a ++ 124 :: 124 :: b) = ⟨xs ++ (⟨0, k1, l ++ r, [], [], 0⟩ :: ys'.map (shP (a.length + 1))), 0, 0⟩ := by
  obtain ⟨_, b1, l1⟩ := lexL_to _ hx
  obtain ⟨_, b2, l2⟩ := lexL_to _ hy
  obtain ⟨xs, k1, l, r, ys', e1, e2, e3⟩ := lex_join l1 a b _ rfl l2
  refine ⟨xs, k1, l, r, ys', e1, e2, ?_⟩
  have hcat : a ++ 124 :: 124 :: b = (a ++ [124]) ++ (124 :: b) := by simp
  rw [hcat]
  refine lexL_of _ _ (by simp; omega) (badL_append _ _ b1 b2) ?_
  rw [show 0 + (a ++ [124] : Bs).length = a.length + 1 from by simp] at e3
  exact e3
end Go.Proofs.YthilkpjdfjjikaaDoor
