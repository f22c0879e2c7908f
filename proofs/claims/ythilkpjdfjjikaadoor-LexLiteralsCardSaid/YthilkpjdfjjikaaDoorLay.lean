/-
  The pieces of a template, put together, are the template (plain).
-/
import Derived.Test.YthilkpjdfjjikaaDoorLxp
namespace Go.Proofs.YthilkpjdfjjikaaDoor
open Go.RowKit

/-- Pieces that lie one behind the other from a place on; 'pl': a literal stands ahead of them. -/
def Lays (s : Bs) : Nat → Bool → List Piece → Prop
  | k, _, [] => k = s.length
  | k, pl, p :: ps => p.pos = k ∧
    ((p.kind = 0 ∧ p.text ≠ [] ∧ (s.drop k).take p.text.length = p.text ∧ k + p.text.length ≤ s.length ∧ pl = false ∧ Lays s (k + p.text.length) true ps) ∨
     (p.kind ≠ 0 ∧ ∃ m, k + 5 ≤ s.length ∧ (s.drop k).take 2 = [123, 123] ∧ k + m + 4 ≤ s.length ∧ (s.drop (k + 2 + m)).take 2 = [125, 125] ∧ (∀ j, j < m → (s.drop (k + 2 + j)).take 2 ≠ [125, 125]) ∧ Lays s (k + (m + 4)) false ps))

theorem index_first2 (a b : UInt8) : ∀ (l : Bs) (i : Nat), Lib.index l [a, b] = (i : Int) → (l.drop i).take 2 = [a, b] ∧ i + 2 ≤ l.length ∧ ∀ j, j < i → (l.drop j).take 2 ≠ [a, b]
  | [], i, h => by simp [Lib.index] at h
  | x :: l, i, h => by
    unfold Lib.index at h
    by_cases hp : [a, b].isPrefixOf (x :: l) = true
    · rw [if_pos hp] at h
      obtain rfl : i = 0 := by omega
      obtain ⟨t, ht⟩ := List.isPrefixOf_iff_prefix.1 hp
      refine ⟨by rw [← ht]; rfl, by rw [← ht]; simp, fun j hj => by omega⟩
    · rw [if_neg hp] at h
      by_cases hi : (Lib.index l [a, b] == -1) = true
      · rw [if_pos hi] at h; omega
      · rw [if_neg hi] at h
        have hge := Lib.index_ge l [a, b]
        have hne : Lib.index l [a, b] ≠ -1 := by simpa using hi
        obtain ⟨i', rfl⟩ : ∃ i', i = i' + 1 := ⟨i - 1, by omega⟩
        have ih := index_first2 a b l i' (by omega)
        refine ⟨by rw [List.drop_succ_cons]; exact ih.1, by rw [List.length_cons]; omega, fun j hj => ?_⟩
        cases j with
        | zero =>
          intro e
          apply hp
          rw [List.isPrefixOf_iff_prefix]
          exact ⟨(x :: l).drop 2, by rw [← e]; exact List.take_append_drop 2 _⟩
        | succ j => rw [List.drop_succ_cons]; exact ih.2.2 j (by omega)
theorem cut2 (a b : UInt8) (l lit rest : Bs) (more : Bool) (h : Lib.cut l [a, b] = (lit, rest, more)) :
    (more = false ∧ lit = l) ∨ (more = true ∧ lit = l.take lit.length ∧ rest = l.drop (lit.length + 2) ∧ (l.drop lit.length).take 2 = [a, b] ∧ lit.length + 2 ≤ l.length ∧ ∀ j, j < lit.length → (l.drop j).take 2 ≠ [a, b]) := by
  unfold Lib.cut at h
  by_cases hi : 0 ≤ Lib.index l [a, b]
  · rw [if_pos hi] at h
    injection h with h1 h
    injection h with h2 h3
    obtain ⟨i, hi'⟩ : ∃ i : Nat, Lib.index l [a, b] = (i : Int) := ⟨(Lib.index l [a, b]).toNat, by omega⟩
    have hf := index_first2 a b l i hi'
    rw [hi', Int.toNat_natCast] at h1
    rw [hi', Int.toNat_natCast] at h2
    have hl : lit.length = i := by rw [← h1, List.length_take]; omega
    refine .inr ⟨h3.symm, by rw [hl]; exact h1.symm, ?_, by rw [hl]; exact hf.1, by rw [hl]; exact hf.2.1, by rw [hl]; exact hf.2.2⟩
    rw [hl, ← h2]; rfl
  · rw [if_neg hi] at h
    injection h with h1 h
    injection h with h2 h3
    exact .inl ⟨h3.symm, h1.symm⟩
theorem tagL_nil : tagL [] = none := by kernel_rfl
theorem tag_kind (w : Bs) (p : Piece) (h : tagL w = some p) : p.kind ≠ 0 := by
  unfold tagL at h
  split at h
  · split at h
    · injection h with h; rw [← h]; decide
    · split at h
      · injection h with h; rw [← h]; decide
      · obtain ⟨l, _, rfl⟩ := Option.map_eq_some_iff.1 h; exact Nat.one_ne_zero
  · split at h
    · obtain ⟨l, _, rfl⟩ := Option.map_eq_some_iff.1 h; exact Nat.succ_ne_zero 1
    · split at h
      · obtain ⟨l, _, rfl⟩ := Option.map_eq_some_iff.1 h; exact Nat.succ_ne_zero 3
      · cases h
  · split at h
    · obtain ⟨l, _, rfl⟩ := Option.map_eq_some_iff.1 h; exact Nat.succ_ne_zero 2
    · cases h
  · cases h
theorem badFrom_le : ∀ (f : Nat) (l : Bs) (i j : Nat), badFrom f l i = some j → j ≤ i + l.length
  | 0, _, _, _, h => by cases h
  | _ + 1, [], _, _, h => by cases h
  | f + 1, x :: r, i, j, h => by
    rw [badFrom] at h
    split at h
    · injection h with h; omega
    · have ih := badFrom_le f _ _ j h
      rw [List.length_drop] at ih
      by_cases hk : (readL (x :: r)).2 ≤ (x :: r).length
      · omega
      · rw [List.drop_eq_nil_of_le (by omega)] at h
        cases f <;> cases h
theorem lexEnd_ok (n : Nat) (m : Mach) (out : List Piece) (h : (lexEnd n m out).err = 0) : (lexEnd n m out).out = out := by
  unfold lexEnd at h ⊢
  by_cases h0 : m.st = 0
  · rw [if_pos h0]
  · rw [if_neg h0] at h; exact absurd h (show (171 : Nat) ≠ 0 by decide)
theorem lexEnd_no (n : Nat) (m : Mach) (out : List Piece) (h : (lexEnd n m out).err ≠ 0) : (lexEnd n m out).out = [] ∧ (lexEnd n m out).pos ≤ n := by
  unfold lexEnd at h ⊢
  by_cases h0 : m.st = 0
  · rw [if_pos h0] at h; exact absurd rfl h
  · rw [if_neg h0]; exact ⟨rfl, Nat.le_refl _⟩
theorem lays_lit (s : Bs) (k : Nat) (lit : Bs) (ps : List Piece) (h : lit = (s.drop k).take lit.length) (hk : k + lit.length ≤ s.length) (hl : Lays s (k + lit.length) (!lit.isEmpty) ps) : Lays s k false ((if lit = [] then [] else [⟨0, k, lit, [], [], 0⟩]) ++ ps) := by
  by_cases he : lit = []
  · subst he
    simpa using hl
  · rw [if_neg he]
    refine ⟨rfl, .inl ⟨rfl, he, h.symm, hk, rfl, ?_⟩⟩
    cases lit with
    | nil => exact absurd rfl he
    | cons a l => exact hl
theorem litP_eq (k : Nat) (lit : Bs) (out : List Piece) : litP k lit out = out ++ (if lit = [] then [] else [⟨0, k, lit, [], [], 0⟩]) := by
  unfold litP
  split <;> simp
theorem lexFrom_lays (s : Bs) : ∀ (F k : Nat) (m : Mach) (out : List Piece), s.length - k < F → k ≤ s.length →
    ((lexFrom s F k m out).err = 0 → ∃ ps, (lexFrom s F k m out).out = out ++ ps ∧ Lays s k false ps) ∧ ((lexFrom s F k m out).err ≠ 0 → (lexFrom s F k m out).out = [] ∧ (lexFrom s F k m out).pos ≤ s.length)
  | 0, k, m, out, h, _ => by omega
  | F + 1, k, m, out, h, hk => by
    by_cases hkn : k < s.length
    · obtain ⟨lit, rest, more, hcut⟩ : ∃ lit rest more, Lib.cut (s.drop k) [123, 123] = (lit, rest, more) := ⟨_, _, _, rfl⟩
      obtain ⟨words, rest2, whole, hcut2⟩ : ∃ words rest2 whole, Lib.cut rest [125, 125] = (words, rest2, whole) := ⟨_, _, _, rfl⟩
      have hst : lexFrom s (F + 1) k m out = if more = false then lexEnd s.length (lit.foldl stepM m) (litP k lit out) else
        match tagL words with
        | none => ⟨[], k + lit.length, 170⟩
        | some p => if whole = false then ⟨[], k + lit.length, 170⟩
          else if (placeL (lit.foldl stepM m).st (lit.foldl stepM m).attr (lit.foldl stepM m).filled).2 = false ∨ (p.kind ≠ 1 ∧ (placeL (lit.foldl stepM m).st (lit.foldl stepM m).attr (lit.foldl stepM m).filled).1 ≠ 0) then ⟨[], k + lit.length, 171⟩
          else lexFrom s F (k + lit.length + (words.length + 4)) { (lit.foldl stepM m) with filled := true } (litP k lit out ++ [⟨p.kind, k + lit.length, [], p.path, p.name, (placeL (lit.foldl stepM m).st (lit.foldl stepM m).attr (lit.foldl stepM m).filled).1⟩]) := by
        rw [lexFrom, if_pos hkn, hcut]
        dsimp only
        rw [hcut2]
        rfl
      rw [hst]
      have hdl : (s.drop k).length = s.length - k := List.length_drop
      rcases cut2 _ _ _ _ _ _ hcut with ⟨rfl, hlit⟩ | ⟨rfl, hlit, hrest, h2, hroom, _⟩
      · rw [if_pos rfl]
        refine ⟨fun h0 => ?_, fun h0 => lexEnd_no _ _ _ h0⟩
        refine ⟨if lit = [] then [] else [⟨0, k, lit, [], [], 0⟩], ?_, ?_⟩
        · rw [lexEnd_ok _ _ _ h0, litP_eq]
        · have := lays_lit s k lit [] (by rw [hlit, List.take_length]) (by rw [hlit, hdl]; omega) (by show k + lit.length = s.length; rw [hlit, hdl]; omega)
          rwa [List.append_nil] at this
      · rw [if_neg (by decide)]
        have hkl : k + lit.length ≤ s.length := by omega
        cases ht : tagL words with
        | none => exact ⟨fun h0 => absurd h0 (show (170 : Nat) ≠ 0 by decide), fun _ => ⟨rfl, hkl⟩⟩
        | some p =>
          dsimp only
          cases whole with
          | false =>
            rw [if_pos rfl]
            exact ⟨fun h0 => absurd h0 (show (170 : Nat) ≠ 0 by decide), fun _ => ⟨rfl, hkl⟩⟩
          | true =>
            rw [if_neg (by decide)]
            by_cases hb : (placeL (lit.foldl stepM m).st (lit.foldl stepM m).attr (lit.foldl stepM m).filled).2 = false ∨ (p.kind ≠ 1 ∧ (placeL (lit.foldl stepM m).st (lit.foldl stepM m).attr (lit.foldl stepM m).filled).1 ≠ 0)
            · rw [if_pos hb]
              exact ⟨fun h0 => absurd h0 (show (171 : Nat) ≠ 0 by decide), fun _ => ⟨rfl, hkl⟩⟩
            · rw [if_neg hb]
              rcases cut2 _ _ _ _ _ _ hcut2 with ⟨hf, _⟩ | ⟨_, hw, _, h2', hroom2, hno⟩
              · cases hf
              · have hrl : rest.length = s.length - k - (lit.length + 2) := by rw [hrest, List.length_drop, hdl]
                have ih := lexFrom_lays s F (k + lit.length + (words.length + 4)) { (lit.foldl stepM m) with filled := true } (litP k lit out ++ [⟨p.kind, k + lit.length, [], p.path, p.name, (placeL (lit.foldl stepM m).st (lit.foldl stepM m).attr (lit.foldl stepM m).filled).1⟩]) (by omega) (by omega)
                refine ⟨fun h0 => ?_, ih.2⟩
                obtain ⟨ps, ho, hL⟩ := ih.1 h0
                refine ⟨(if lit = [] then [] else [⟨0, k, lit, [], [], 0⟩]) ++ (⟨p.kind, k + lit.length, [], p.path, p.name, (placeL (lit.foldl stepM m).st (lit.foldl stepM m).attr (lit.foldl stepM m).filled).1⟩ :: ps), ?_, ?_⟩
                · rw [ho, litP_eq]; simp
                · refine lays_lit s k lit _ hlit hkl ?_
                  have hwne : words ≠ [] := by
                    rintro rfl
                    rw [tagL_nil] at ht; cases ht
                  have hwl : 0 < words.length := List.length_pos_iff.2 hwne
                  refine ⟨rfl, .inr ⟨tag_kind words p ht, words.length, by omega, ?_, by omega, ?_, ?_, hL⟩⟩
                  · rw [← List.drop_drop]; exact h2
                  · rw [hrest, List.drop_drop, List.drop_drop] at h2'
                    rw [← h2']; congr 2; omega
                  · intro j hj
                    have := hno j hj
                    rw [hrest, List.drop_drop, List.drop_drop] at this
                    intro e
                    apply this
                    rw [← e]; congr 2; omega
    · rw [lexFrom, if_neg hkn]
      refine ⟨fun h0 => ⟨[], by rw [lexEnd_ok _ _ _ h0, List.append_nil], by show k = s.length; omega⟩, fun h0 => lexEnd_no _ _ _ h0⟩
theorem lexL_lays (s : Bs) (h : (lexL s).err = 0) : Lays s 0 false (lexL s).out := by
  unfold lexL at h ⊢
  split at h
  · exact absurd h (show (72 : Nat) ≠ 0 by decide)
  · rename_i hn
    rw [if_neg hn]
    cases hb : badL s with
    | some i => rw [hb] at h; exact absurd h (show (20 : Nat) ≠ 0 by decide)
    | none =>
      rw [hb] at h
      obtain ⟨ps, ho, hL⟩ := (lexFrom_lays s (s.length + 1) 0 mach0 [] (by omega) (by omega)).1 h
      show Lays s 0 false (lexFrom s (s.length + 1) 0 mach0 []).out
      rw [ho]; exact hL
theorem lexL_no (s : Bs) (h : (lexL s).err ≠ 0) : (lexL s).out = [] ∧ (lexL s).pos ≤ max s.length 20000 := by
  unfold lexL at h ⊢
  split at h
  · rename_i hn
    rw [if_pos hn]
    exact ⟨rfl, by show 20000 ≤ _; omega⟩
  · rename_i hn
    rw [if_neg hn]
    cases hb : badL s with
    | some i =>
      have := badFrom_le _ _ _ _ hb
      exact ⟨rfl, by show i ≤ _; omega⟩
    | none =>
      rw [hb] at h
      have := (lexFrom_lays s (s.length + 1) 0 mach0 [] (by omega) (by omega)).2 h
      exact ⟨this.1, by have := this.2; show (lexFrom s (s.length + 1) 0 mach0 []).pos ≤ _; omega⟩
end Go.Proofs.YthilkpjdfjjikaaDoor
