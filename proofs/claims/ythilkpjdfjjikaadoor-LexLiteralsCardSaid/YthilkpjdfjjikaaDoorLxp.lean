/-
  The program's lexer as a plain function.
-/
import Derived.Test.YthilkpjdfjjikaaDoorPrw
import Derived.Test.YthilkpjdfjjikaaDoorPla
import Derived.Test.YthilkpjdfjjikaaDoorBad
import Derived.Test.YthilkpjdfjjikaaDoorMsp
namespace Go.Proofs.YthilkpjdfjjikaaDoor
open Go.RowKit

theorem index_room (sub : Bs) : ∀ s : Bs, 0 ≤ Lib.index s sub → (Lib.index s sub).toNat + sub.length ≤ s.length
  | [], h => by
    unfold Lib.index at h ⊢
    cases sub with
    | nil => decide
    | cons a r => simp at h
  | b :: l, h => by
    unfold Lib.index at h ⊢
    by_cases hp : sub.isPrefixOf (b :: l) = true
    · rw [if_pos hp] at h ⊢
      have := (List.isPrefixOf_iff_prefix.1 hp).length_le
      show 0 + _ ≤ _
      omega
    · rw [if_neg hp] at h ⊢
      by_cases hi : (Lib.index l sub == -1) = true
      · rw [if_pos hi] at h; exact absurd h (by decide)
      · rw [if_neg hi] at h ⊢
        have hge := Lib.index_ge l sub
        have hne : Lib.index l sub ≠ -1 := by simpa using hi
        have ih := index_room sub l (by omega)
        rw [List.length_cons]; omega
theorem cut_room (s sep : Bs) : (Lib.cut s sep).1.length + (if (Lib.cut s sep).2.2 = true then sep.length + (Lib.cut s sep).2.1.length else 0) = s.length := by
  unfold Lib.cut
  by_cases h : 0 ≤ Lib.index s sep
  · rw [if_pos h]
    have := index_room sep s h
    simp only [if_true, List.length_take, List.length_drop]
    omega
  · rw [if_neg h]; simp
def sz (m : Mach) : Nat := m.name.length + m.attr.length + m.tail.length
theorem bang_sz (m : Mach) (c : UInt8) : sz (bangM m c) ≤ sz m + 1 ∧ (m.st ≤ 12 → (bangM m c).st ≤ 12) := by
  unfold bangM
  split
  · exact ⟨by unfold sz; dsimp only; omega, fun _ => Nat.zero_le _⟩
  · split
    · rename_i _ h
      rw [Bool.and_eq_true, decide_eq_true_eq] at h
      refine ⟨?_, fun h => h⟩
      have h2 := h.2
      rw [List.length_append, List.length_singleton] at h2
      unfold sz
      dsimp only
      rw [List.length_append, List.length_drop, List.length_append, List.length_singleton]
      show _ + _ + (2 + _) ≤ _
      omega
    · exact ⟨by unfold sz; dsimp only; rw [List.length_append, List.length_singleton]; omega, fun h => h⟩
theorem tag_sz (m : Mach) (c : UInt8) : sz (tagM m c) ≤ sz m + 1 ∧ (m.st ≤ 12 → (tagM m c).st ≤ 12) := by
  refine ⟨?_, fun h => ?_⟩
  · unfold tagM
    repeat' split
    all_goals unfold sz
    all_goals try unfold shutM
    all_goals try dsimp only
    all_goals try (simp only [List.length_append, List.length_singleton, List.length_nil])
    all_goals omega
  · unfold tagM
    repeat' split
    all_goals first
      | exact h
      | (unfold shutM; dsimp only; split <;> decide)
      | (dsimp only; omega)
theorem text_sz (m : Mach) (c : UInt8) : sz (textM m c) ≤ sz m + 1 ∧ (m.st ≤ 12 → (textM m c).st ≤ 12) := by
  unfold textM
  split
  · exact ⟨by unfold sz; dsimp only; omega, fun _ => by show 1 ≤ 12; decide⟩
  · exact ⟨by omega, fun h => h⟩
theorem step_sz (m : Mach) (c : UInt8) : sz (stepM m c) ≤ sz m + 1 ∧ (m.st ≤ 12 → (stepM m c).st ≤ 12) := by
  unfold stepM
  split
  · exact text_sz m c
  · split
    · unfold openM
      split
      · exact ⟨by unfold sz; dsimp only; rw [List.length_singleton]; omega, fun _ => by show 3 ≤ 12; decide⟩
      · split
        · exact ⟨by unfold sz; dsimp only; omega, fun _ => by show 2 ≤ 12; decide⟩
        · split
          · exact ⟨by unfold sz; dsimp only; rw [List.length_nil]; omega, fun _ => by show 11 ≤ 12; decide⟩
          · have := text_sz { m with st := 0 } c
            exact ⟨this.1, fun _ => this.2 (Nat.zero_le _)⟩
    · split
      · unfold closeM
        split
        · exact ⟨by unfold sz; dsimp only; rw [List.length_nil]; omega, fun _ => by show 4 ≤ 12; decide⟩
        · have := bang_sz { m with st := 11, tail := [] } c
          refine ⟨?_, fun _ => this.2 (by show 11 ≤ 12; decide)⟩
          have h1 := this.1
          unfold sz at h1 ⊢
          dsimp only at h1
          rw [List.length_nil] at h1
          omega
      · split
        · split
          · exact ⟨by unfold sz; dsimp only; omega, fun _ => Nat.zero_le _⟩
          · exact ⟨by omega, fun h => h⟩
        · split
          · refine ⟨by unfold sz; dsimp only; omega, fun h => ?_⟩
            dsimp only
            split
            · decide
            · exact h
          · split
            · exact bang_sz m c
            · split
              · unfold rawM
                refine ⟨?_, fun h => ?_⟩
                · unfold sz; dsimp only; rw [List.length_drop, List.length_append, List.length_singleton]; omega
                · dsimp only
                  split
                  · decide
                  · exact h
              · exact tag_sz m c
theorem fold_sz : ∀ (l : Bs) (m : Mach), sz (l.foldl stepM m) ≤ sz m + l.length ∧ (m.st ≤ 12 → (l.foldl stepM m).st ≤ 12)
  | [], m => ⟨by simp, fun h => h⟩
  | c :: l, m => by
    have h1 := step_sz m c
    have h2 := fold_sz l (stepM m c)
    rw [List.foldl_cons, List.length_cons]
    exact ⟨by omega, fun h => h2.2 (h1.2 h)⟩

structure LexR where
  out : List Piece
  pos : Nat
  err : Nat
def lexEnd (n : Nat) (m : Mach) (out : List Piece) : LexR := if m.st = 0 then ⟨out, 0, 0⟩ else ⟨[], n, 171⟩
def litP (k : Nat) (lit : Bs) (out : List Piece) : List Piece := if lit = [] then out else out ++ [⟨0, k, lit, [], [], 0⟩]
def lexFrom (s : Bs) : Nat → Nat → Mach → List Piece → LexR
  | 0, _, m, out => lexEnd s.length m out
  | f + 1, k, m, out =>
    if k < s.length then
      if (Lib.cut (s.drop k) [123, 123]).2.2 = false then lexEnd s.length ((Lib.cut (s.drop k) [123, 123]).1.foldl stepM m) (litP k (Lib.cut (s.drop k) [123, 123]).1 out)
      else
        match tagL (Lib.cut (Lib.cut (s.drop k) [123, 123]).2.1 [125, 125]).1 with
        | none => ⟨[], k + (Lib.cut (s.drop k) [123, 123]).1.length, 170⟩
        | some p =>
          if (Lib.cut (Lib.cut (s.drop k) [123, 123]).2.1 [125, 125]).2.2 = false then ⟨[], k + (Lib.cut (s.drop k) [123, 123]).1.length, 170⟩
          else if (placeL ((Lib.cut (s.drop k) [123, 123]).1.foldl stepM m).st ((Lib.cut (s.drop k) [123, 123]).1.foldl stepM m).attr ((Lib.cut (s.drop k) [123, 123]).1.foldl stepM m).filled).2 = false ∨ (p.kind ≠ 1 ∧ (placeL ((Lib.cut (s.drop k) [123, 123]).1.foldl stepM m).st ((Lib.cut (s.drop k) [123, 123]).1.foldl stepM m).attr ((Lib.cut (s.drop k) [123, 123]).1.foldl stepM m).filled).1 ≠ 0) then ⟨[], k + (Lib.cut (s.drop k) [123, 123]).1.length, 171⟩
          else lexFrom s f (k + (Lib.cut (s.drop k) [123, 123]).1.length + ((Lib.cut (Lib.cut (s.drop k) [123, 123]).2.1 [125, 125]).1.length + 4)) { ((Lib.cut (s.drop k) [123, 123]).1.foldl stepM m) with filled := true }
            (litP k (Lib.cut (s.drop k) [123, 123]).1 out ++ [⟨p.kind, k + (Lib.cut (s.drop k) [123, 123]).1.length, [], p.path, p.name, (placeL ((Lib.cut (s.drop k) [123, 123]).1.foldl stepM m).st ((Lib.cut (s.drop k) [123, 123]).1.foldl stepM m).attr ((Lib.cut (s.drop k) [123, 123]).1.foldl stepM m).filled).1⟩])
    else lexEnd s.length m out
def mach0 : Mach := ⟨0, [], [], 0, false, []⟩
def lexL (s : Bs) : LexR :=
  if 20000 < s.length then ⟨[], 20000, 72⟩ else
  match badL s with
  | some i => ⟨[], i, 20⟩
  | none => lexFrom s (s.length + 1) 0 mach0 []
end Go.Proofs.YthilkpjdfjjikaaDoor
