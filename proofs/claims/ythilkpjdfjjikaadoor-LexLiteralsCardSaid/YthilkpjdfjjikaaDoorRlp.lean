/-
  What the document's Lex shares with the program's (plain, and rows).
-/
import Derived.Test.YthilkpjdfjjikaaDoorRtn
import Derived.Test.YthilkpjdfjjikaaDoorRpl
import Derived.Test.YthilkpjdfjjikaaDoorRse
import Derived.Test.YthilkpjdfjjikaaDoorFst
namespace Go.Proofs.YthilkpjdfjjikaaDoor
open Go.RowKit

theorem set_app {α : Type} (X Y : List α) (k : Nat) (u : α) : (X ++ Y).set (X.length + k) u = X ++ Y.set k u := by
  rw [List.set_append_right _ _ (by omega)]
  congr 2
  omega
/-- The last piece is a literal: its text may be set anew. -/
theorem PRow.retext {w : World} {B g cap n : Nat} {ps : List Piece} {k : Nat} {t : Bs} (hn : n = ps.length) (h : PRow w B (.slice (some ⟨g, 0, none⟩) (n + 1) cap) (ps ++ [⟨0, k, t, [], [], 0⟩])) (t' : Bs) :
    PRow (w.setCell ⟨g, n * 6 + 2, none⟩ (.string (bs t'))) B (.slice (some ⟨g, 0, none⟩) (n + 1) cap) (ps ++ [⟨0, k, t', [], [], 0⟩]) ∧ w.grownBy (w.setCell ⟨g, n * 6 + 2, none⟩ (.string (bs t'))) (some g) := by
  subst hn
  obtain ⟨qs, e, ho, hp⟩ := h
  have hqn : qs ≠ [] := by rintro rfl; simp at e
  obtain ⟨q0, q, rfl⟩ : ∃ q0 q, qs = q0 ++ [q] := ⟨qs.dropLast, qs.getLast hqn, (List.dropLast_concat_getLast hqn).symm⟩
  rw [List.map_append, List.map_singleton] at e
  obtain ⟨e0, e1⟩ := List.append_inj' e rfl
  have e1 : q.1 = ⟨0, k, t, [], [], 0⟩ := by injection e1
  rw [show (ps ++ [(⟨0, k, t, [], [], 0⟩ : Piece)]).length = ps.length + 1 from by simp] at ho
  have hst := ho.stored (ps.length * 6 + 2) (.string (bs t'))
  have hX : (q0.flatMap pcell).length = ps.length * 6 := by rw [pcells_len, ← e0, List.length_map]
  have hblk : ∃ cur, w.heap[g]? = some (.cells cur 35 (0, 0)) := own_block ho rfl
  refine ⟨⟨q0 ++ [(⟨0, k, t', [], [], 0⟩, q.2)], by rw [List.map_append, e0]; rfl, ?_, ?_⟩, hst.2⟩
  · rw [show (ps ++ [(⟨0, k, t', [], [], 0⟩ : Piece)]).length = ps.length + 1 from by simp]
    have h1 := hst.1
    rw [List.flatMap_append, List.flatMap_singleton, ← hX, set_app, hX] at h1
    rw [List.flatMap_append, List.flatMap_singleton]
    obtain ⟨q1, q2⟩ := q
    dsimp only at e1
    subst e1
    exact h1
  · intro x hx
    have hk : ∀ {l : List Value} {n : Nat} {u : Value}, w.ownsRow B 9 1 u n l → (w.setCell ⟨g, ps.length * 6 + 2, none⟩ (.string (bs t'))).ownsRow B 9 1 u n l := by
      intro l n u h
      refine own_type h hst.2 (fun g' hg' => ?_)
      cases hg'
      obtain ⟨cur, hc⟩ := hblk
      exact ⟨cur, 35, (0, 0), hc, by decide⟩
    rcases List.mem_append.1 hx with hx | hx
    · exact hk (hp x (List.mem_append_left _ hx))
    · rw [List.mem_singleton.1 hx]
      have := hk (hp q (List.mem_append_right _ (List.mem_singleton_self _)))
      rw [e1] at this
      exact this
/-- The cells of the last piece. -/
theorem PRow.last {w : World} {B g cap n : Nat} {ps : List Piece} {p : Piece} (hn : n = ps.length) (h : PRow w B (.slice (some ⟨g, 0, none⟩) (n + 1) cap) (ps ++ [p])) :
    w.cell? ⟨g, n * 6, none⟩ = some (.int .i64 ((p.kind : Nat) : Int)) ∧ w.cell? ⟨g, n * 6 + 1, none⟩ = some (.int .i64 ((p.pos : Nat) : Int)) ∧ w.cell? ⟨g, n * 6 + 2, none⟩ = some (.string (bs p.text)) ∧ w.frozen? ⟨g, n * 6 + 2, none⟩ = false := by
  subst hn
  obtain ⟨qs, e, ho, _⟩ := h
  have hqn : qs ≠ [] := by rintro rfl; simp at e
  obtain ⟨q0, q, rfl⟩ : ∃ q0 q, qs = q0 ++ [q] := ⟨qs.dropLast, qs.getLast hqn, (List.dropLast_concat_getLast hqn).symm⟩
  rw [List.map_append, List.map_singleton] at e
  obtain ⟨e0, e1⟩ := List.append_inj' e rfl
  have e1 : q.1 = p := by injection e1
  rw [show (ps ++ [p]).length = ps.length + 1 from by simp] at ho
  have hX : (q0.flatMap pcell).length = ps.length * 6 := by rw [pcells_len, ← e0, List.length_map]
  have hc : ∀ j, j < 6 → w.cell? ⟨g, ps.length * 6 + j, none⟩ = (pcell q)[j]? := by
    intro j hj
    rw [ho.cellAt (ps.length * 6 + j) (by omega), List.flatMap_append, List.flatMap_singleton, ← hX, List.getElem?_append_right (by omega), Nat.add_sub_cancel_left]
  refine ⟨?_, ?_, ?_, ho.frozenAt _⟩
  · have := hc 0 (by decide); rw [pcell_0, e1] at this; exact this
  · have := hc 1 (by decide); rw [pcell_1, e1] at this; exact this
  · have := hc 2 (by decide); rw [pcell_2, e1] at this; exact this
theorem litP_some (k : Nat) (lit : Bs) (out : List Piece) (h : lit ≠ []) : litP k lit out = out ++ [⟨0, k, lit, [], [], 0⟩] := by
  unfold litP; rw [if_neg h]
theorem take_snoc_B (l : Bs) (j : Nat) (h : j < l.length) : l.take (j + 1) = l.take j ++ [l.getD j 0] := by
  rw [List.take_succ_eq_append_getElem h, List.getD_eq_getElem?_getD, List.getElem?_eq_getElem h]; rfl
theorem rel_fold : ∀ (l : Bs) (x : Walk) (m : Mach), RelM x m → RelM (l.foldl stepW x) (l.foldl stepM m)
  | [], _, _, h => h
  | c :: l, x, m, h => rel_fold l _ _ (step_rel h c)
theorem szW_fold : ∀ (l : Bs) (x : Walk), szW (l.foldl stepW x) ≤ szW x + l.length
  | [], _ => Nat.le_refl _
  | c :: l, x => by
    have h1 := szW_fold l (stepW x c)
    have h2 := stepW_sz x c
    rw [List.length_cons]
    show szW (l.foldl stepW (stepW x c)) ≤ _
    omega
theorem fold_snocW (l : Bs) (j : Nat) (h : j < l.length) (x : Walk) : (l.take (j + 1)).foldl stepW x = stepW ((l.take j).foldl stepW x) (l.getD j 0) := by
  rw [take_snoc_B l j h, List.foldl_append]; rfl
end Go.Proofs.YthilkpjdfjjikaaDoor
