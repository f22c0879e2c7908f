/-
  Texts of this seat, joined: Fst, Rtn, Rse, Rlp. Each says what it proves, ahead of itself.
-/
import Derived.Test.YthilkpjdfjjikaaDoorLex
import Derived.Test.YthilkpjdfjjikaaDoorRsb
import Derived.Test.YthilkpjdfjjikaaDoorRtg
import Derived.Test.YthilkpjdfjjikaaDoorRpl
import Derived.Test.YthilkpjdfjjikaaDoorRsv
import Derived.Test.YthilkpjdfjjikaaDoorRsw
set_option linter.unusedVariables false
set_option linter.unusedSimpArgs false
section
/-
  The laws' first lines: what must be answered ahead of everything else.
-/
namespace Go.Proofs.YthilkpjdfjjikaaDoor
open Go.RowKit

def firstA : Bs := [60, 97, 32, 104, 114, 101, 102, 61, 34, 123, 123, 120, 46, 108, 105, 110, 107, 125, 125, 34, 62, 123, 123, 120, 46, 116, 105, 116, 108, 101, 125, 125, 60, 47, 97, 62]
def firstB : Bs := [60, 112, 32, 123, 123, 120, 125, 125, 62]
def firstP : List Piece := [⟨0, 0, [60, 97, 32, 104, 114, 101, 102, 61, 34], [], [], 0⟩, ⟨1, 9, [], [[120], [108, 105, 110, 107]], [], 2⟩, ⟨0, 19, [34, 62], [], [], 0⟩, ⟨1, 21, [], [[120], [116, 105, 116, 108, 101]], [], 0⟩, ⟨0, 32, [60, 47, 97, 62], [], [], 0⟩]
theorem f_lexA : lexL firstA = ⟨firstP, 0, 0⟩ := by kernel_rfl
theorem f_lexB : lexL firstB = ⟨[], 3, 171⟩ := by kernel_rfl
/-- What of a list of pieces stands in memory: each piece's six cells, and its path's. -/
structure PRd (w : World) (B : Nat) (A : Option Addr) (qs : List (Piece × Value)) : Prop where
  row : Rd w B 6 A qs.length (qs.flatMap pcell)
  path : ∀ q ∈ qs, ∃ A' c, q.2 = .slice A' q.1.path.length c ∧ q.1.path.length ≤ c ∧ Rd w B 1 A' q.1.path.length (strs q.1.path)
theorem pcells_at : ∀ (qs : List (Piece × Value)) (i k : Nat) (h : i < qs.length), k < 6 → (qs.flatMap pcell)[i * 6 + k]? = (pcell qs[i])[k]?
  | q :: qs, 0, k, _, hk => by
    rw [List.flatMap_cons, List.getElem?_append_left (by show 0 * 6 + k < 6; omega)]
    simp
  | q :: qs, i + 1, k, h, hk => by
    rw [List.flatMap_cons, List.getElem?_append_right (by show 6 ≤ (i + 1) * 6 + k; omega), show (i + 1) * 6 + k - (pcell q).length = i * 6 + k from by show (i + 1) * 6 + k - 6 = _; omega]
    rw [pcells_at qs i k (by simpa using h) hk]
    simp
theorem PRow.read {w : World} {B : Nat} {v : Value} {ps : List Piece} (h : PRow w B v ps) : ∃ A c qs, v = .slice A ps.length c ∧ ps.length ≤ c ∧ qs.map (·.1) = ps ∧ PRd w w.heap.size A qs := by
  obtain ⟨qs, e, ho, hp⟩ := h
  obtain ⟨A, c, rfl, hc, _⟩ := own_form ho
  have hl : qs.length = ps.length := by rw [← e, List.length_map]
  refine ⟨A, c, qs, rfl, hc, e, ⟨by rw [hl]; exact Rd.of_own ho, fun q hq => ?_⟩⟩
  obtain ⟨A', c', h1, h2, _⟩ := own_form (hp q hq)
  have := hp q hq
  rw [h1] at this
  exact ⟨A', c', h1, h2, Rd.of_own this⟩
theorem PRd.keep {w w' : World} {B : Nat} {A : Option Addr} {qs : List (Piece × Value)} (h : PRd w B A qs) (hb : Below B w w') : PRd w' B A qs :=
  ⟨h.row.keep hb, fun q hq => by obtain ⟨A', c, h1, h2, h3⟩ := h.path q hq; exact ⟨A', c, h1, h2, h3.keep hb⟩⟩
theorem PRd.more {w : World} {B B' : Nat} {A : Option Addr} {qs : List (Piece × Value)} (h : PRd w B A qs) (hB : B ≤ B') : PRd w B' A qs :=
  ⟨h.row.more hB, fun q hq => by obtain ⟨A', c, h1, h2, h3⟩ := h.path q hq; exact ⟨A', c, h1, h2, h3.more hB⟩⟩
theorem PRd.at_ {w : World} {B : Nat} {A : Option Addr} {qs : List (Piece × Value)} (h : PRd w B A qs) (hn : 0 < qs.length) : ∃ b off, A = some ⟨b, off, none⟩ ∧ b < B ∧ ∀ i k (hi : i < qs.length), k < 6 → w.cell? ⟨b, off + i * 6 + k, none⟩ = (pcell qs[i])[k]? := by
  obtain ⟨b, off, e, hb, hc⟩ := h.row.at_ hn
  refine ⟨b, off, e, hb, fun i k hi hk => ?_⟩
  rw [Nat.add_assoc, hc (i * 6 + k) (by have := Nat.mul_le_mul_right 6 (show i + 1 ≤ qs.length from hi); rw [Nat.add_mul] at this; omega), pcells_at qs i k hi hk]
theorem map_at {qs : List (Piece × Value)} {ps : List Piece} (h : qs.map (·.1) = ps) (i : Nat) (hi : i < qs.length) : (qs[i]).1 = ps.getD i ⟨0, 0, [], [], [], 0⟩ := by
  subst h
  simp [List.getD_eq_getElem?_getD, hi]
theorem pcell_0 (q : Piece × Value) : (pcell q)[0]? = some (.int .i64 ((q.1.kind : Nat) : Int)) := rfl
theorem pcell_1 (q : Piece × Value) : (pcell q)[1]? = some (.int .i64 ((q.1.pos : Nat) : Int)) := rfl
theorem pcell_2 (q : Piece × Value) : (pcell q)[2]? = some (.string (bs q.1.text)) := rfl
theorem pcell_3 (q : Piece × Value) : (pcell q)[3]? = some q.2 := rfl
theorem pcell_4 (q : Piece × Value) : (pcell q)[4]? = some (.string (bs q.1.name)) := rfl
theorem pcell_5 (q : Piece × Value) : (pcell q)[5]? = some (.int .i64 ((q.1.place : Nat) : Int)) := rfl
set_option maxHeartbeats 4000000 in
set_option maxRecDepth 100000 in
theorem first_any (w : World) (hT : Tabs w) :
    Calls Tryd.prog 11 #[] w fun e w' => e = .returned (.bool true) ∧ Below w.heap.size w w' := by
  have HT := Lib.hid hT; clear hT
  have H1 := Lib.hid (lex_any firstA w HT.out)
  rw [f_lexA] at H1
  go_enter Tryd.func11, Tryd.ntmps11
  go_wp2_with fail
  refine H1.out.mono ?_
  rintro e w1 ⟨v1, rfl, o1, b1⟩
  clear H1
  have H2 := Lib.hid (lex_any firstB w1 (HT.out.below b1))
  rw [f_lexB] at H2
  have hs1 := b1.size
  obtain ⟨A, c, qs, rfl, hc, hqs, hrd⟩ := o1.read
  have HR := Lib.hid hrd
  clear hrd o1
  have hc5 : 5 ≤ c := hc
  clear hc
  go_wp2_with fail
  refine H2.out.mono ?_
  rintro e w2 ⟨v2, rfl, o2, b2⟩
  clear H2 o2
  have hrd := HR.out.keep b2
  have hl : qs.length = 5 := by rw [← List.length_map (f := (·.1)), hqs]; rfl
  obtain ⟨b, off, rfl, hb, hcell⟩ := hrd.at_ (by rw [hl]; decide)
  have e11 := hcell 1 1 (by rw [hl]; decide) (by decide)
  have e15 := hcell 1 5 (by rw [hl]; decide) (by decide)
  have e31 := hcell 3 1 (by rw [hl]; decide) (by decide)
  have e35 := hcell 3 5 (by rw [hl]; decide) (by decide)
  rw [pcell_1, map_at hqs 1 (by rw [hl]; decide)] at e11
  rw [pcell_5, map_at hqs 1 (by rw [hl]; decide)] at e15
  rw [pcell_1, map_at hqs 3 (by rw [hl]; decide)] at e31
  rw [pcell_5, map_at hqs 3 (by rw [hl]; decide)] at e35
  have b3 := b1.trans (b2.mono hs1)
  clear hcell hrd HR hqs hl
  go_wp2_with fail
  go_ret
  exact ⟨rfl, b3⟩
end Go.Proofs.YthilkpjdfjjikaaDoor
end
section
/-
  The document's tag of any words.
-/
namespace Go.Proofs.YthilkpjdfjjikaaDoor
open Go.RowKit

theorem tagL_other (s : Bs) (h : (wordsL s).length ≠ 1 ∧ (wordsL s).length ≠ 2 ∧ (wordsL s).length ≠ 4) : tagL s = none := by
  unfold tagL
  obtain ⟨L, hL⟩ : ∃ L, L = wordsL s := ⟨_, rfl⟩
  rw [← hL] at h ⊢
  match L, h with
  | [], _ => rfl
  | [_], h => exact absurd rfl h.1
  | [_, _], h => exact absurd rfl h.2.1
  | [_, _, _], _ => rfl
  | [_, _, _, _], h => exact absurd rfl h.2.2
  | _ :: _ :: _ :: _ :: _ :: _, _ => rfl
set_option maxHeartbeats 8000000 in
set_option maxRecDepth 100000 in
theorem tagR_n (s : Bs) (m : Nat) (hm : (wordsL s).length = m + 1) (hn : m ≠ 0 ∧ m ≠ 1 ∧ m ≠ 3) (w : World) (hl : s.length ≤ 800000) :
    Calls Tryd.prog 34 #[.string (bs s)] w (TagPost w (tagL s)) := by
  rw [tagL_other s (by omega)]
  have hle := words_le s
  have H57 := Lib.hid (fun W => wordsR_any s W (by omega))
  obtain ⟨L, hL⟩ : ∃ L, L = wordsL s := ⟨_, rfl⟩
  rw [← hL] at H57 hle hm
  rw [hm] at H57
  clear hL
  have hlast : L[m]? = some (L.getD m []) := by rw [List.getD_eq_getElem?_getD, List.getElem?_eq_getElem (by omega)]; rfl
  have hal : (L.getD m []).length ≤ 900000 := by
    have := hle (L.getD m []) (List.mem_of_getElem? hlast)
    omega
  have hstr : (strs L)[m]? = some (.string (bs (L.getD m []))) := strs_at L m (by omega)
  have H58 := Lib.hid (fun W => pathR_any (L.getD m []) W hal)
  obtain ⟨X, hX⟩ : ∃ X, X = bs (L.getD m []) := ⟨_, rfl⟩
  rw [← hX] at H58 hstr
  generalize pathL (L.getD m []) = PL at H58
  obtain ⟨n1, n2, n3⟩ := hn
  have HM := Lib.hid hm
  clear hX hal hlast hle hm
  have u0 : ((m : Int) + 1 == 0) = false := by rw [beq_eq_false_iff_ne]; omega
  have u1 : ((m : Int) + 1 == 1) = false := by rw [beq_eq_false_iff_ne]; omega
  have u2 : ((m : Int) + 1 == 2) = false := by rw [beq_eq_false_iff_ne]; omega
  have u4 : ((m : Int) + 1 == 4) = false := by rw [beq_eq_false_iff_ne]; omega
  go_enter Tryd.func34, Tryd.ntmps34
  go_upto_region 2 with (go_at_call 57; refine (H57.out _).mono ?_; rintro e w1 ⟨v, rfl, ho, hnb, hb1⟩; obtain ⟨A, cap, rfl, hA, _⟩ := ho.form (by omega))
  obtain ⟨hzb, hG⟩ := zero_block hb1
  have hbw : Below w.heap.size w w1 := ((Below.refl _ w).alloc (Nat.le_refl _) _).trans (hb1.mono (by simp))
  have hs1 := hbw.size
  have wcm := ho.cellAt m (by omega)
  rw [hstr] at wcm
  have HZ := Lib.hid hzb; have HB := Lib.hid hbw
  clear hb1 hzb hbw H57 ho hstr
  go_upto_region 9 with (go_at_call 58; refine (H58.out _).mono ?_; rintro e w2 ⟨v, ok, rfl, hpo, hb2⟩)
  have hz2 := blk_below HZ.out hb2 hG
  have hbA : Below w.heap.size w w2 := HB.out.trans (hb2.mono hs1)
  have hs2 := hb2.size
  have HZ2 := Lib.hid hz2; have HBA := Lib.hid hbA; have HPO := Lib.hid hpo
  clear hz2 hbA hpo hb2 H58 wcm
  cases PL with
  | none =>
    obtain rfl : ok = false := HPO.out
    go_wp2_with (refine wpList_store_row rfl 35 (.tmp 2) (.tmp 46) rfl w.heap.size #[_, _, _, _, _, _] rfl rfl 35 _ HZ2.out (by kernel_rfl) rfl (by simp [Value.oneCell']) ?_)
    refine bodyPost_ret (v := .tuple #[.agg (pcells 0 (.slice none 0 0) []), .bool false]) (results_ct Tryd.results34 _ _ _ ⟨w.heap.size, 0, none⟩ _ rfl (load_res _ w.heap.size _ rfl ⟨_, HZ2.out⟩)) rfl ?_
    exact ⟨⟨_, _, _, _, rfl, ⟨rfl, _, _, _, rfl⟩⟩, below_setRow (HBA.out) (Nat.le_refl _) _⟩
  | some P =>
    obtain ⟨rfl, hpown⟩ := (show ok = true ∧ w2.ownsRow w1.heap.size 9 1 v P.length (strs P) from HPO.out)
    obtain ⟨PA, pc, rfl, _, _⟩ := own_form hpown
    clear hpown HPO
    go_upto_region 12 with fail
    have hgP := blk_new w2 35 #[.int .i64 1, .int .i64 0, .string ⟨#[]⟩, .slice PA P.length pc, .string ⟨#[]⟩, .int .i64 0]
    have hzP : Blk (w2.alloc (.cells #[.int .i64 1, .int .i64 0, .string ⟨#[]⟩, .slice PA P.length pc, .string ⟨#[]⟩, .int .i64 0] 35)) w.heap.size 35 zero6 := blk_alloc HZ2.out _
    have hbP : Below w.heap.size w (w2.alloc (.cells #[.int .i64 1, .int .i64 0, .string ⟨#[]⟩, .slice PA P.length pc, .string ⟨#[]⟩, .int .i64 0] 35)) := HBA.out.alloc (Nat.le_trans hs1 hs2) _
    obtain ⟨W, hW⟩ : ∃ W, W = w2.alloc (.cells #[.int .i64 1, .int .i64 0, .string ⟨#[]⟩, .slice PA P.length pc, .string ⟨#[]⟩, .int .i64 0] 35) := ⟨_, rfl⟩
    rw [← hW] at hgP hzP hbP ⊢
    have p0 := blk_cell hgP 0; have p1 := blk_cell hgP 1; have p2 := blk_cell hgP 2; have p3 := blk_cell hgP 3; have p4 := blk_cell hgP 4; have p5 := blk_cell hgP 5
    simp only [List.getElem?_cons_zero, List.getElem?_cons_succ] at p0 p1 p2 p3 p4 p5
    have HZP := Lib.hid hzP; have HBP := Lib.hid hbP
    clear hgP hzP hbP hW
    go_wp2_with (refine wpList_store_row rfl 35 (.tmp 2) (.tmp 98) rfl w.heap.size #[_, _, _, _, _, _] rfl rfl 35 _ HZP.out (by kernel_rfl) rfl (by simp [Value.oneCell']) ?_)
    refine bodyPost_ret (v := .tuple #[.agg (pcells 1 (.slice PA P.length pc) []), .bool false]) (results_ct Tryd.results34 _ _ _ ⟨w.heap.size, 0, none⟩ _ rfl (load_res _ w.heap.size _ rfl ⟨_, HZP.out⟩)) rfl ?_
    exact ⟨⟨_, _, _, _, rfl, ⟨rfl, _, _, _, rfl⟩⟩, below_setRow (HBP.out) (Nat.le_refl _) _⟩
theorem tagR_any (s : Bs) (w : World) (hl : s.length ≤ 800000) : Calls Tryd.prog 34 #[.string (bs s)] w (TagPost w (tagL s)) := by
  obtain ⟨L, hL⟩ : ∃ L, L = wordsL s := ⟨_, rfl⟩
  match L, hL with
  | [], h => exact tagR_0 s h.symm w hl
  | [a], h => exact tagR_1 s a h.symm w hl
  | [a, b], h => exact tagR_2 s a b h.symm w hl
  | [a, b, c], h => exact tagR_n s 2 (by rw [← h]; rfl) (by omega) w hl
  | [a, b, c, d], h => exact tagR_4 s a b c d h.symm w hl
  | a :: b :: c :: d :: e :: r, h => exact tagR_n s (r.length + 4) (by rw [← h]; rfl) (by omega) w hl
end Go.Proofs.YthilkpjdfjjikaaDoor
end
section
/-
  The document's machine's step, whatever the state.
-/
namespace Go.Proofs.YthilkpjdfjjikaaDoor
open Go.RowKit

def szW (x : Walk) : Nat := x.el.length + x.attr.length + x.seen.length
theorem stepR_any (x : Walk) (c : UInt8) (hst : x.st ≤ 12) (hs : szW x ≤ 900000) (w : World) :
    Calls Tryd.prog 33 #[walkV x, u8v c] w fun e w' => e = .returned (walkV (stepW x c)) ∧ Below w.heap.size w w' := by
  obtain ⟨st, el, at', seen, q, f⟩ := x
  unfold szW at hs
  dsimp only at hst hs
  have h : st = 0 ∨ st = 1 ∨ st = 2 ∨ st = 3 ∨ st = 4 ∨ st = 5 ∨ st = 6 ∨ st = 7 ∨ st = 8 ∨ st = 9 ∨ st = 10 ∨ st = 11 ∨ st = 12 := by omega
  rcases h with rfl | rfl | rfl | rfl | rfl | rfl | rfl | rfl | rfl | rfl | rfl | rfl | rfl
  · exact stp_0 el at' seen q c f w
  · exact stp_1 el at' seen q c f w
  · exact stp_2 el at' seen q c f hs w
  · exact stp_3 el at' seen q c f hs w
  · exact stp_4 el at' seen q c f w
  · exact stp_5 el at' seen q c f w
  · exact stp_6 el at' seen q c f hs w
  · exact stp_7 el at' seen q c f w
  · exact stp_8 el at' seen q c f w
  · exact stp_9 el at' seen q c f w
  · exact stp_10 el at' seen q c f w
  · exact stp_11 el at' seen q c f (by omega) w
  · exact stp_12 el at' seen q c f hs w
theorem sz_ite {p : Prop} [Decidable p] {a b : Walk} {n : Nat} (ha : szW a ≤ n) (hb : szW b ≤ n) : szW (if p then a else b) ≤ n := by
  by_cases h : p
  · rw [if_pos h]; exact ha
  · rw [if_neg h]; exact hb
theorem stepW_sz (x : Walk) (c : UInt8) : szW (stepW x c) ≤ szW x + 1 := by
  obtain ⟨st, el, at', seen, q, f⟩ := x
  unfold stepW textW bangW
  repeat' apply sz_ite
  all_goals
    simp only [szW, List.length_append, List.length_cons, List.length_nil]
    omega
end Go.Proofs.YthilkpjdfjjikaaDoor
end
section
/-
  What the document's Lex shares with the program's (plain, and rows).
-/
namespace Go.Proofs.YthilkpjdfjjikaaDoor
open Go.RowKit

theorem set_app {α : Type} (X Y : List α) (k : Nat) (u : α) : (X ++ Y).set (X.length + k) u = X ++ Y.set k u := by
  rw [List.set_append_right _ _ (by omega)]
  congr 2
  omega
/-- The last piece is a literal: its text may be set anew. -/
theorem PRow.retext {w : World} {B g cap n : Nat} {ps : List Piece} {k : Nat} {t : Bs} (hn : n = ps.length) (h : PRow w B (.slice (some ⟨g, 0, none⟩) (n + 1) cap) (ps ++ [⟨0, k, t, [], [], 0⟩])) (t' : Bs) :
    PRow (w.setCell ⟨g, n * 6 + 2, none⟩ (.string (bs t'))) B (.slice (some ⟨g, 0, none⟩) (n + 1) cap) (ps ++ [⟨0, k, t', [], [], 0⟩]) ∧ w.grownBy (w.setCell ⟨g, n * 6 + 2, none⟩ (.string (bs t'))) (some g) := by
  subst hn
  obtain ⟨qs, e, ho, hp⟩ := h
  have hqn : qs ≠ [] := by rintro rfl; simp at e
  obtain ⟨q0, q, rfl⟩ : ∃ q0 q, qs = q0 ++ [q] := ⟨qs.dropLast, qs.getLast hqn, (List.dropLast_concat_getLast hqn).symm⟩
  rw [List.map_append, List.map_singleton] at e
  obtain ⟨e0, e1⟩ := List.append_inj' e rfl
  have e1 : q.1 = ⟨0, k, t, [], [], 0⟩ := by injection e1
  rw [show (ps ++ [(⟨0, k, t, [], [], 0⟩ : Piece)]).length = ps.length + 1 from by simp] at ho
  have hst := ho.stored (ps.length * 6 + 2) (.string (bs t'))
  have hX : (q0.flatMap pcell).length = ps.length * 6 := by rw [pcells_len, ← e0, List.length_map]
  have hblk : ∃ cur, w.heap[g]? = some (.cells cur 35 (0, 0)) := own_block ho rfl
  refine ⟨⟨q0 ++ [(⟨0, k, t', [], [], 0⟩, q.2)], by rw [List.map_append, e0]; rfl, ?_, ?_⟩, hst.2⟩
  · rw [show (ps ++ [(⟨0, k, t', [], [], 0⟩ : Piece)]).length = ps.length + 1 from by simp]
    have h1 := hst.1
    rw [List.flatMap_append, List.flatMap_singleton, ← hX, set_app, hX] at h1
    rw [List.flatMap_append, List.flatMap_singleton]
    obtain ⟨q1, q2⟩ := q
    dsimp only at e1
    subst e1
    exact h1
  · intro x hx
    have hk : ∀ {l : List Value} {n : Nat} {u : Value}, w.ownsRow B 9 1 u n l → (w.setCell ⟨g, ps.length * 6 + 2, none⟩ (.string (bs t'))).ownsRow B 9 1 u n l := by
      intro l n u h
      refine own_type h hst.2 (fun g' hg' => ?_)
      cases hg'
      obtain ⟨cur, hc⟩ := hblk
      exact ⟨cur, 35, (0, 0), hc, by decide⟩
    rcases List.mem_append.1 hx with hx | hx
    · exact hk (hp x (List.mem_append_left _ hx))
    · rw [List.mem_singleton.1 hx]
      have := hk (hp q (List.mem_append_right _ (List.mem_singleton_self _)))
      rw [e1] at this
      exact this
/-- The cells of the last piece. -/
theorem PRow.last {w : World} {B g cap n : Nat} {ps : List Piece} {p : Piece} (hn : n = ps.length) (h : PRow w B (.slice (some ⟨g, 0, none⟩) (n + 1) cap) (ps ++ [p])) :
    w.cell? ⟨g, n * 6, none⟩ = some (.int .i64 ((p.kind : Nat) : Int)) ∧ w.cell? ⟨g, n * 6 + 1, none⟩ = some (.int .i64 ((p.pos : Nat) : Int)) ∧ w.cell? ⟨g, n * 6 + 2, none⟩ = some (.string (bs p.text)) ∧ w.frozen? ⟨g, n * 6 + 2, none⟩ = false := by
  subst hn
  obtain ⟨qs, e, ho, _⟩ := h
  have hqn : qs ≠ [] := by rintro rfl; simp at e
  obtain ⟨q0, q, rfl⟩ : ∃ q0 q, qs = q0 ++ [q] := ⟨qs.dropLast, qs.getLast hqn, (List.dropLast_concat_getLast hqn).symm⟩
  rw [List.map_append, List.map_singleton] at e
  obtain ⟨e0, e1⟩ := List.append_inj' e rfl
  have e1 : q.1 = p := by injection e1
  rw [show (ps ++ [p]).length = ps.length + 1 from by simp] at ho
  have hX : (q0.flatMap pcell).length = ps.length * 6 := by rw [pcells_len, ← e0, List.length_map]
  have hc : ∀ j, j < 6 → w.cell? ⟨g, ps.length * 6 + j, none⟩ = (pcell q)[j]? := by
    intro j hj
    rw [ho.cellAt (ps.length * 6 + j) (by omega), List.flatMap_append, List.flatMap_singleton, ← hX, List.getElem?_append_right (by omega), Nat.add_sub_cancel_left]
  refine ⟨?_, ?_, ?_, ho.frozenAt _⟩
  · have := hc 0 (by decide); rw [pcell_0, e1] at this; exact this
  · have := hc 1 (by decide); rw [pcell_1, e1] at this; exact this
  · have := hc 2 (by decide); rw [pcell_2, e1] at this; exact this
theorem litP_some (k : Nat) (lit : Bs) (out : List Piece) (h : lit ≠ []) : litP k lit out = out ++ [⟨0, k, lit, [], [], 0⟩] := by
  unfold litP; rw [if_neg h]
theorem take_snoc_B (l : Bs) (j : Nat) (h : j < l.length) : l.take (j + 1) = l.take j ++ [l.getD j 0] := by
  rw [List.take_succ_eq_append_getElem h, List.getD_eq_getElem?_getD, List.getElem?_eq_getElem h]; rfl
theorem rel_fold : ∀ (l : Bs) (x : Walk) (m : Mach), RelM x m → RelM (l.foldl stepW x) (l.foldl stepM m)
  | [], _, _, h => h
  | c :: l, x, m, h => rel_fold l _ _ (step_rel h c)
theorem szW_fold : ∀ (l : Bs) (x : Walk), szW (l.foldl stepW x) ≤ szW x + l.length
  | [], _ => Nat.le_refl _
  | c :: l, x => by
    have h1 := szW_fold l (stepW x c)
    have h2 := stepW_sz x c
    rw [List.length_cons]
    show szW (l.foldl stepW (stepW x c)) ≤ _
    omega
theorem fold_snocW (l : Bs) (j : Nat) (h : j < l.length) (x : Walk) : (l.take (j + 1)).foldl stepW x = stepW ((l.take j).foldl stepW x) (l.getD j 0) := by
  rw [take_snoc_B l j h, List.foldl_append]; rfl
end Go.Proofs.YthilkpjdfjjikaaDoor
end
