/-
  Blocks that are known whole: stores into them and loads out of them; what becomes of them is told by letters.
-/
import Derived.Test.YtcpkkaimingnlaaGreatDoorLor
import Derived.Laws.CopyRow
import Derived.Laws.ResultCell
import Derived.Laws.Rows
namespace Go.Proofs.YtcpkkaimingnlaaGreatDoor
open Go.RowKit

/-- World w' is world w but for what block g holds. -/
structure Turned (w w' : World) (g : Nat) : Prop where
  far : ∀ k, k ≠ g → w'.heap[k]? = w.heap[k]?
  size : w'.heap.size = w.heap.size
  below : ∀ B w0, B ≤ g → Below B w0 w → Below B w0 w'
theorem Turned.blk {w w' : World} {g k : Nat} {t : TypeId} {cs : List Value} (h : Turned w w' g) (hb : Blk w k t cs) (hk : k ≠ g) : Blk w' k t cs := (h.far k hk).trans hb
theorem turned_setRow (w : World) (g : Nat) (cs : Array Value) : Turned w (w.setRow g cs) g :=
  ⟨fun k hk => by simp only [World.setRow, Array.getElem?_modify]; rw [if_neg (fun e => hk e.symm)], by simp [World.setRow], fun B w0 hB hb =>
    ⟨hb.os, hb.tape, hb.output, by simpa [World.setRow] using hb.size, fun k hk => by
      rw [← hb.block k hk]
      simp only [World.setRow, Array.getElem?_modify]
      rw [if_neg (by omega)]⟩⟩
theorem blk_setRow {w : World} {g : Nat} {t : TypeId} {cs : List Value} (h : Blk w g t cs) (new : List Value) : Blk (w.setRow g new.toArray) g t new := by
  unfold Blk at h ⊢
  simp [World.setRow, Array.getElem?_modify, h]
theorem set_mid (cs : List Value) (i : Nat) (v : Value) (h : i < cs.length) : cs.take i ++ [v] ++ cs.drop (i + 1) = cs.set i v := by
  rw [List.set_eq_take_append_cons_drop, if_pos h]; simp
theorem cells_one {v : Value} (h : v.oneCell' = true) : v.cells = #[v] := by
  cases v <;> first | rfl | cases h
/-- A store of one cell. -/
theorem wpList_storeC {P : Program} {ops : Array Oper} {rest : List Oper} {o : Oper} {a : Act} {w : World} {Q : Exit → Act → World → Prop} (hgd : o.guard = none) (ty : TypeId) (x y : Operand) (ho : o.op = .store ty x y)
    (g i : Nat) (v : Value) (hx : a.eval x = .pointer (some ⟨g, i, none⟩)) (hy : a.eval y = v) (h1 : v.oneCell' = true) (hs : (P.info? ty).map (·.size) = some 1)
    (t : TypeId) (cs : List Value) (hb : Blk w g t cs) (hi : i < cs.length)
    (h : ∀ w', Blk w' g t (cs.set i v) → Turned w w' g → wpList P ops Q rest (a.put o.dst undef) w') : wpList P ops Q (o :: rest) a w := by
  refine wpList_plain hgd fun K hK => ?_
  have hst := run_storeCells_at P g i t [v] 0 cs.toArray w hb (by simp; omega) (fun x hx => by rw [List.mem_singleton.1 hx]; exact h1)
  have e : ((cs.toArray).toList.take (i + 0) ++ [v] ++ (cs.toArray).toList.drop (i + 0 + [v].length)).toArray = (cs.set i v).toArray := by
    simp only [Nat.add_zero, List.length_cons, List.length_nil, Nat.zero_add]
    rw [← set_mid cs i v hi]
  rw [e] at hst
  unfold Oper.wp execOp
  cases hq : P.info? ty with
  | none => simp [hq] at hs
  | some j =>
    have hj : j.size = 1 := by simpa [hq] using hs
    have hv : (storeVar ty ⟨g, i, none⟩ v).run P w = .ok () (w.setRow g (cs.set i v).toArray) := by
      simp [storeVar, sizeOf, typeInfo, hq, hj, cells_one h1, Sem.run_bind, hst]
    simp only [ho, hx, hy, Instr.storeAt, Instr.sureAddr, Sem.run_bind, Sem.run_pure, Result.andThen_ok, hv]
    exact hK _ _ (h _ (blk_setRow hb _) (turned_setRow _ _ _))
/-- A store of a whole block. -/
theorem wpList_storeR {P : Program} {ops : Array Oper} {rest : List Oper} {o : Oper} {a : Act} {w : World} {Q : Exit → Act → World → Prop} (hgd : o.guard = none) (ty : TypeId) (x y : Operand) (ho : o.op = .store ty x y)
    (g : Nat) (new : Array Value) (hx : a.eval x = .pointer (some ⟨g, 0, none⟩)) (hy : a.eval y = .agg new) (t : TypeId) (cs : List Value) (hb : Blk w g t cs)
    (hi : (P.info? ty).map (·.size) = some new.size) (hl : cs.length = new.size) (h1 : new.all (·.oneCell') = true)
    (h : ∀ w', Blk w' g t new.toList → Turned w w' g → wpList P ops Q rest (a.put o.dst undef) w') : wpList P ops Q (o :: rest) a w :=
  Go.wpList_store_row hgd ty x y ho g new hx hy t cs.toArray hb hi (by simpa using hl) h1 (h _ (by have := blk_setRow hb new.toList; rwa [Array.toArray_toList] at this) (turned_setRow _ _ _))
/-- A load of a whole block. -/
theorem wpList_loadR {P : Program} {ops : Array Oper} {rest : List Oper} {o : Oper} {a : Act} {w : World} {Q : Exit → Act → World → Prop} (hgd : o.guard = none) (ty : TypeId) (x : Operand) (ho : o.op = .load ty x)
    (g : Nat) (hx : a.eval x = .pointer (some ⟨g, 0, none⟩)) (t : TypeId) (cs : List Value) (d : TypeDesc) (hb : Blk w g t cs)
    (hu : P.underlying ty = some d) (hd : (match d with | .struct _ | .array _ _ => true | _ => false) = true) (hi : (P.info? ty).map (·.size) = some cs.length)
    (h : wpList P ops Q rest (a.put o.dst (.agg cs.toArray)) w) : wpList P ops Q (o :: rest) a w :=
  wpList_load_row hgd ty x ho g hx t cs.toArray (0, 0) d hb hu hd (by simpa using hi) h
theorem results_link {fn : Func} {p u : Tmp} (h : fn.results = #[.cell p 24, .tmp u]) (tmps : Array Value) (w : World) (g : Nat) (cs : List Value) (hp : tmps.getD p undef = .pointer (some ⟨g, 0, none⟩)) (hb : Blk w g 24 cs) (hl : cs.length = 8) :
    (results fn tmps).run Tryz.prog w = .ok (.tuple #[.agg cs.toArray, tmps.getD u undef]) w := by
  have hi : (Tryz.prog.info? 24).map (·.size) = some 8 := by kernel_rfl
  rw [results_cell_tmp h, hp]
  have hld := run_loadVar_row (P := Tryz.prog) w g 24 24 cs.toArray (0, 0) _ hb Tryz.underlying24 rfl (by rw [hi]; simp [hl])
  simp [asAddr, hld]
theorem results_link1 {fn : Func} {p : Tmp} (h : fn.results = #[.cell p 24]) (tmps : Array Value) (w : World) (g : Nat) (cs : List Value) (hp : tmps.getD p undef = .pointer (some ⟨g, 0, none⟩)) (hb : Blk w g 24 cs) (hl : cs.length = 8) :
    (results fn tmps).run Tryz.prog w = .ok (.agg cs.toArray) w := by
  have hi : (Tryz.prog.info? 24).map (·.size) = some 8 := by kernel_rfl
  exact results_cell_row h tmps w g 24 cs.toArray (0, 0) _ hp hb Tryz.underlying24 rfl (by rw [hi]; simp [hl])
theorem info24 : (Tryz.prog.info? 24).map (·.size) = some 8 := by kernel_rfl
theorem info9 : (Tryz.prog.info? 9).map (·.size) = some 1 := by kernel_rfl
theorem info3 : (Tryz.prog.info? 3).map (·.size) = some 1 := by kernel_rfl
theorem info4 : (Tryz.prog.info? 4).map (·.size) = some 1 := by kernel_rfl
/-- A store of a whole link. -/
theorem wpList_storeL {ops : Array Oper} {rest : List Oper} {o : Oper} {a : Act} {w : World} {Q : Exit → Act → World → Prop} (hgd : o.guard = none) (x y : Operand) (ho : o.op = .store 24 x y)
    (g : Nat) (new : Array Value) (hx : a.eval x = .pointer (some ⟨g, 0, none⟩)) (hy : a.eval y = .agg new) (cs : List Value) (hb : Blk w g 24 cs) (hn : new.size = 8) (hl : cs.length = 8) (h1 : new.toList.all (·.oneCell') = true)
    (h : ∀ w', Blk w' g 24 new.toList → Turned w w' g → wpList Tryz.prog ops Q rest (a.put o.dst undef) w') : wpList Tryz.prog ops Q (o :: rest) a w :=
  wpList_storeR hgd 24 x y ho g new hx hy 24 cs hb (by rw [info24, hn]) (by rw [hl, hn]) (by rw [← Array.all_toList]; exact h1) h
/-- A load of a whole link. -/
theorem wpList_loadL {ops : Array Oper} {rest : List Oper} {o : Oper} {a : Act} {w : World} {Q : Exit → Act → World → Prop} (hgd : o.guard = none) (x : Operand) (ho : o.op = .load 24 x)
    (g : Nat) (hx : a.eval x = .pointer (some ⟨g, 0, none⟩)) (cs : List Value) (hb : Blk w g 24 cs) (hl : cs.length = 8)
    (h : wpList Tryz.prog ops Q rest (a.put o.dst (.agg cs.toArray)) w) : wpList Tryz.prog ops Q (o :: rest) a w :=
  wpList_loadR hgd 24 x ho g hx 24 cs _ hb Tryz.underlying24 rfl (by rw [info24, hl]) h
def lcs (l : Link) : List Value := [.string (bs l.scheme), .string (bs l.host), .int .i64 ((l.port : Nat) : Int), .string (bs l.path), .string (bs l.query), .string (bs l.frag), .bool l.hasQ, .bool l.hasF]
theorem lnk_lcs (l : Link) : lnk l = .agg (lcs l).toArray := rfl
theorem below_drewN {B : Nat} {w0 w : World} (h : Below B w0 w) (n : Nat) : Below B w0 (w.drewN n) := ⟨h.os, h.tape, h.output, h.size, h.block⟩
end Go.Proofs.YtcpkkaimingnlaaGreatDoor
