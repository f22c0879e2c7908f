/-
  The document's sources: one source's cells; ticks (plain).
-/
import Derived.Test.YtcpkkaimingnlaaGreatDoorFB
import Derived.Test.YtcpkkaimingnlaaGreatDoorRps
set_option linter.unusedVariables false
set_option linter.unusedSimpArgs false
namespace Go.Proofs.YtcpkkaimingnlaaGreatDoor
open Go.RowKit

/-- A source of the document, as one of the poller's. -/
def toS (r : RSrc) : Src := ⟨r.own, r.led.getD (r.led.length - 1) [], r.due, r.fails, r.etag, r.mod, r.out, r.led.length, r.lasting && decide (0 < r.led.length)⟩
def rtickP (t : Int) (r : RSrc) : RSrc := if dueP t (toS r) = true then { r with out := true } else r
theorem toS_tick (t : Int) (r : RSrc) : toS (rtickP t r) = tickP t (toS r) := by
  unfold rtickP tickP
  split <;> rfl
theorem toS_ticks (t : Int) (rs : List RSrc) : (rs.map (rtickP t)).map toS = (rs.map toS).map (tickP t) := by
  rw [List.map_map, List.map_map]
  congr 1
  funext r
  exact toS_tick t r
section
set_option linter.unusedSectionVars false
variable {α : Type} [Inhabited α]
/-- A list, of which what is ahead of number j is turned. -/
def midG (f : α → α) (l : List α) (j : Nat) : List α := (l.take j).map f ++ l.drop j
theorem midG_end (f : α → α) (ss : List α) {j : Nat} (h : j = ss.length) : midG f ss j = ss.map f := by subst h; simp [midG]
theorem midG_get (f : α → α) (ss : List α) {j : Nat} (h : j < ss.length) : (midG f ss j).getD j default = ss.getD j default := by
  unfold midG
  rw [List.getD_eq_getElem?_getD, List.getElem?_append_right (by simp; omega)]
  simp [Nat.min_eq_left (Nat.le_of_lt h)]
theorem midG_len (f : α → α) (ss : List α) (j : Nat) : (midG f ss j).length = ss.length := by simp [midG]; omega
theorem midG_set (f : α → α) (ss : List α) {j : Nat} (h : j < ss.length) : (midG f ss j).set j (f (ss.getD j default)) = midG f ss (j + 1) := by
  unfold midG
  rw [List.set_append_right _ _ (by simp; omega)]
  have e : j - ((ss.take j).map f).length = 0 := by simp; omega
  rw [e, List.drop_eq_getElem_cons h, List.set_cons_zero, List.take_succ_eq_append_getElem h, List.map_append, List.append_assoc]
  simp [h]
theorem midG_same (f : α → α) (ss : List α) {j : Nat} (h : j < ss.length) (hn : f (ss.getD j default) = ss.getD j default) : midG f ss (j + 1) = midG f ss j := by
  rw [← midG_set f ss h, hn]
  have e : ss.getD j default = (midG f ss j).getD j default := by rw [midG_get f ss h]
  rw [e]
  have hl : j < (midG f ss j).length := by rw [midG_len]; exact h
  rw [List.getD_eq_getElem?_getD, List.getElem?_eq_getElem hl, Option.getD_some, List.set_getElem_self]
end
theorem rasks_step (t : Int) (rs : List RSrc) {j : Nat} (h : j < rs.length) : asksP t 0 ((rs.take (j + 1)).map toS) = asksP t 0 ((rs.take j).map toS) ++ (if dueP t (toS (rs.getD j default)) = true then [askP j (toS (rs.getD j default))] else []) := by
  have e : rs.take (j + 1) = rs.take j ++ [rs.getD j default] := by rw [List.take_succ_eq_append_getElem h]; simp [h]
  rw [e, List.map_append, List.map_cons, List.map_nil, asks_snoc]
  have e2 : (0 + ((rs.take j).map toS).length) = j := by simp; omega
  rw [e2]
theorem src_cell {W : World} {gr o : Nat} {pre post : List Value} {r : RSrc} (h : Blk W gr 64 (pre ++ rcs r ++ post)) (ho : pre.length = o) (k : Nat) (v : Value) (hv : (rcs r)[k]? = some v) : W.cell? ⟨gr, o + k, none⟩ = some v := by
  rw [blk_cell h (o + k), List.append_assoc, List.getElem?_append_right (by omega), show o + k - pre.length = k by omega]
  have hk : k < (rcs r).length := (List.getElem?_eq_some_iff.1 hv).1
  rw [List.getElem?_append_left hk, hv]
theorem src_lt {pre post : List Value} {r : RSrc} {o k : Nat} (ho : pre.length = o) (hk : k < 8) : o + k < (pre ++ rcs r ++ post).length := by
  rw [List.length_append, List.length_append, rcs_len]; omega
theorem src_set {pre post : List Value} {r : RSrc} {o k : Nat} {v : Value} (ho : pre.length = o) (hk : k < 8) : (pre ++ rcs r ++ post).set (o + k) v = pre ++ (rcs r).set k v ++ post := by
  rw [List.append_assoc, List.set_append_right _ _ (by omega), show o + k - pre.length = k by omega, List.set_append_left _ _ (by rw [rcs_len]; omega), List.append_assoc]
theorem wp_ran2 {P : Program} {o : Oper} {a : Act} {w W' : World} {K : Act → World → Prop} {Q : Exit → Act → World → Prop} {v : Value} (h1 : (execOp a.eval o).run P w = .ok (.value v) W') (h : K (a.put o.dst v) W') : o.wp P a w K Q := by
  unfold Oper.wp
  rw [h1]
  exact h
theorem run_bs53 {o : Oper} {a : Act} {W : World} {k : Ask} (x : Operand) (ho : o.op = .buildSlice 53 1 #[(0, x)]) (hx : a.eval x = .agg (akc k).toArray) :
    (execOp a.eval o).run Tryz.prog W = .ok (.value (.slice (some ⟨W.heap.size, 0, none⟩) 1 1)) (W.alloc (.cells (akc k).toArray 69)) := by
  unfold execOp
  generalize a.eval = ev at *
  simp only [ho]
  have h4 : (akc k).length = 4 := rfl
  go_simp
  rfl
/-- A source goes out. -/
theorem RPol.outs {W X : World} {P : Nat → Prop} {lo hi g gr : Nat} {A : Option Addr} {cap : Nat} {per now : Int} {rs : List RSrc} {j : Nat} {pre post : List Value} {r : RSrc} (h : RPol W P lo hi g A cap per now rs) (hpre : pre.length = j * 8) (hgr : lo ≤ gr ∧ gr < hi) (hled : LedRd W P r)
    (hback : ∀ W' P' r', Blk W' gr 64 (pre ++ rcs r' ++ post) → Only gr (gr + 1) W W' → LedRd W' P' r' → (∀ b, b < W.heap.size → P b → P' b) → (∀ b, P' b → hi ≤ b) → RPol W' P' lo hi g A cap per now (rs.set j r'))
    (hb : Blk X gr 64 ((pre ++ rcs r ++ post).set (j * 8 + 7) (.bool true))) (ht : Turned W X gr) :
    RPol X P lo hi g A cap per now (rs.set j { r with out := true }) ∧ LedRd X P { r with out := true } ∧ Blk X gr 64 (pre ++ rcs { r with out := true } ++ post) := by
  rw [src_set hpre (by decide)] at hb
  have hb : Blk X gr 64 (pre ++ rcs { r with out := true } ++ post) := hb
  have ho : Only gr (gr + 1) W X := Only.of_turned ht (Nat.le_refl _) (Nat.lt_succ_self _)
  have hl : LedRd X P { r with out := true } := (hled.only ho (fun b hb => .inr (by have := h.hP b hb; omega))).like rfl rfl rfl
  exact ⟨hback X P _ hb ho hl (fun b _ hb => hb) h.hP, hl, hb⟩
theorem blk_base {W W1 : World} {B g : Nat} {t : TypeId} {cs : List Value} (h : Blk W g t cs) (hb : Below B W W1) (hg : g < B) : Blk W1 g t cs := (hb.block g hg).trans h
end Go.Proofs.YtcpkkaimingnlaaGreatDoor
