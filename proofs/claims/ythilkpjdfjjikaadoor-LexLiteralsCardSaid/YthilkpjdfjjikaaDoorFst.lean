/-
  The laws' first lines: what must be answered ahead of everything else.
-/
import Derived.Test.YthilkpjdfjjikaaDoorLex
namespace Go.Proofs.YthilkpjdfjjikaaDoor
open Go.RowKit

def firstA : Bs := [60, 97, 32, 104, 114, 101, 102, 61, 34, 123, 123, 120, 46, 108, 105, 110, 107, 125, 125, 34, 62, 123, 123, 120, 46, 116, 105, 116, 108, 101, 125, 125, 60, 47, 97, 62]
def firstB : Bs := [60, 112, 32, 123, 123, 120, 125, 125, 62]
def firstP : List Piece := [⟨0, 0, [60, 97, 32, 104, 114, 101, 102, 61, 34], [], [], 0⟩, ⟨1, 9, [], [[120], [108, 105, 110, 107]], [], 2⟩, ⟨0, 19, [34, 62], [], [], 0⟩, ⟨1, 21, [], [[120], [116, 105, 116, 108, 101]], [], 0⟩, ⟨0, 32, [60, 47, 97, 62], [], [], 0⟩]
theorem f_lexA : lexL firstA = ⟨firstP, 0, 0⟩ := by kernel_rfl
theorem f_lexB : lexL firstB = ⟨[], 3, 171⟩ := by kernel_rfl
/-- What of a list of pieces stands in memory: each piece's six cells, and its path's. -/
structure PRd (w : World) (B : Nat) (A : Option Addr) (qs : List (Piece × Value)) : Prop where
  row : Rd w B 6 A qs.length (qs.flatMap pcell)
  path : ∀ q ∈ qs, ∃ A' c, q.2 = .slice A' q.1.path.length c ∧ q.1.path.length ≤ c ∧ Rd w B 1 A' q.1.path.length (strs q.1.path)
theorem pcells_at : ∀ (qs : List (Piece × Value)) (i k : Nat) (h : i < qs.length), k < 6 → (qs.flatMap pcell)[i * 6 + k]? = (pcell qs[i])[k]?
  | q :: qs, 0, k, _, hk => by
    rw [List.flatMap_cons, List.getElem?_append_left (by show 0 * 6 + k < 6; omega)]
    simp
  | q :: qs, i + 1, k, h, hk => by
    rw [List.flatMap_cons, List.getElem?_append_right (by show 6 ≤ (i + 1) * 6 + k; omega), show (i + 1) * 6 + k - (pcell q).length = i * 6 + k from by show (i + 1) * 6 + k - 6 = _; omega]
    rw [pcells_at qs i k (by simpa using h) hk]
    simp
theorem PRow.read {w : World} {B : Nat} {v : Value} {ps : List Piece} (h : PRow w B v ps) : ∃ A c qs, v = .slice A ps.length c ∧ ps.length ≤ c ∧ qs.map (·.1) = ps ∧ PRd w w.heap.size A qs := by
  obtain ⟨qs, e, ho, hp⟩ := h
  obtain ⟨A, c, rfl, hc, _⟩ := own_form ho
  have hl : qs.length = ps.length := by rw [← e, List.length_map]
  refine ⟨A, c, qs, rfl, hc, e, ⟨by rw [hl]; exact Rd.of_own ho, fun q hq => ?_⟩⟩
  obtain ⟨A', c', h1, h2, _⟩ := own_form (hp q hq)
  have := hp q hq
  rw [h1] at this
  exact ⟨A', c', h1, h2, Rd.of_own this⟩
theorem PRd.keep {w w' : World} {B : Nat} {A : Option Addr} {qs : List (Piece × Value)} (h : PRd w B A qs) (hb : Below B w w') : PRd w' B A qs :=
  ⟨h.row.keep hb, fun q hq => by obtain ⟨A', c, h1, h2, h3⟩ := h.path q hq; exact ⟨A', c, h1, h2, h3.keep hb⟩⟩
theorem PRd.more {w : World} {B B' : Nat} {A : Option Addr} {qs : List (Piece × Value)} (h : PRd w B A qs) (hB : B ≤ B') : PRd w B' A qs :=
  ⟨h.row.more hB, fun q hq => by obtain ⟨A', c, h1, h2, h3⟩ := h.path q hq; exact ⟨A', c, h1, h2, h3.more hB⟩⟩
theorem PRd.at_ {w : World} {B : Nat} {A : Option Addr} {qs : List (Piece × Value)} (h : PRd w B A qs) (hn : 0 < qs.length) : ∃ b off, A = some ⟨b, off, none⟩ ∧ b < B ∧ ∀ i k (hi : i < qs.length), k < 6 → w.cell? ⟨b, off + i * 6 + k, none⟩ = (pcell qs[i])[k]? := by
  obtain ⟨b, off, e, hb, hc⟩ := h.row.at_ hn
  refine ⟨b, off, e, hb, fun i k hi hk => ?_⟩
  rw [Nat.add_assoc, hc (i * 6 + k) (by have := Nat.mul_le_mul_right 6 (show i + 1 ≤ qs.length from hi); rw [Nat.add_mul] at this; omega), pcells_at qs i k hi hk]
theorem map_at {qs : List (Piece × Value)} {ps : List Piece} (h : qs.map (·.1) = ps) (i : Nat) (hi : i < qs.length) : (qs[i]).1 = ps.getD i ⟨0, 0, [], [], [], 0⟩ := by
  subst h
  simp [List.getD_eq_getElem?_getD, hi]
theorem pcell_0 (q : Piece × Value) : (pcell q)[0]? = some (.int .i64 ((q.1.kind : Nat) : Int)) := rfl
theorem pcell_1 (q : Piece × Value) : (pcell q)[1]? = some (.int .i64 ((q.1.pos : Nat) : Int)) := rfl
theorem pcell_2 (q : Piece × Value) : (pcell q)[2]? = some (.string (bs q.1.text)) := rfl
theorem pcell_3 (q : Piece × Value) : (pcell q)[3]? = some q.2 := rfl
theorem pcell_4 (q : Piece × Value) : (pcell q)[4]? = some (.string (bs q.1.name)) := rfl
theorem pcell_5 (q : Piece × Value) : (pcell q)[5]? = some (.int .i64 ((q.1.place : Nat) : Int)) := rfl
set_option maxHeartbeats 4000000 in
set_option maxRecDepth 100000 in
theorem first_any (w : World) (hT : Tabs w) :
    Calls Tryd.prog 11 #[] w fun e w' => e = .returned (.bool true) ∧ Below w.heap.size w w' := by
  have HT := Lib.hid hT; clear hT
  have H1 := Lib.hid (lex_any firstA w HT.out)
  rw [f_lexA] at H1
  go_enter Tryd.func11, Tryd.ntmps11
  go_wp2_with fail
  refine H1.out.mono ?_
  rintro e w1 ⟨v1, rfl, o1, b1⟩
  clear H1
  have H2 := Lib.hid (lex_any firstB w1 (HT.out.below b1))
  rw [f_lexB] at H2
  have hs1 := b1.size
  obtain ⟨A, c, qs, rfl, hc, hqs, hrd⟩ := o1.read
  have HR := Lib.hid hrd
  clear hrd o1
  have hc5 : 5 ≤ c := hc
  clear hc
  go_wp2_with fail
  refine H2.out.mono ?_
  rintro e w2 ⟨v2, rfl, o2, b2⟩
  clear H2 o2
  have hrd := HR.out.keep b2
  have hl : qs.length = 5 := by rw [← List.length_map (f := (·.1)), hqs]; rfl
  obtain ⟨b, off, rfl, hb, hcell⟩ := hrd.at_ (by rw [hl]; decide)
  have e11 := hcell 1 1 (by rw [hl]; decide) (by decide)
  have e15 := hcell 1 5 (by rw [hl]; decide) (by decide)
  have e31 := hcell 3 1 (by rw [hl]; decide) (by decide)
  have e35 := hcell 3 5 (by rw [hl]; decide) (by decide)
  rw [pcell_1, map_at hqs 1 (by rw [hl]; decide)] at e11
  rw [pcell_5, map_at hqs 1 (by rw [hl]; decide)] at e15
  rw [pcell_1, map_at hqs 3 (by rw [hl]; decide)] at e31
  rw [pcell_5, map_at hqs 3 (by rw [hl]; decide)] at e35
  have b3 := b1.trans (b2.mono hs1)
  clear hcell hrd HR hqs hl
  go_wp2_with fail
  go_ret
  exact ⟨rfl, b3⟩
end Go.Proofs.YthilkpjdfjjikaaDoor
