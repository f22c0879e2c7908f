/-
  The law FetchEnds: what its answers are laid of.
-/
import Derived.Test.YtcpkkaimingnlaaGreatDoorFC
set_option linter.unusedVariables false
set_option linter.unusedSimpArgs false
namespace Go.Proofs.YtcpkkaimingnlaaGreatDoor
open Go.RowKit

def hJ : Bs := [104, 116, 116, 112, 58, 47, 47, 106, 47]
theorem cellS {W : World} {k qn n0 : Nat} {st : Int} (hk : W.heap.size = n0 + k) (hq : qn < 6) (hst : st = [200, 301, 302, 304, 500, 0].getD qn 0) :
    (W.alloc (.cells #[.int .i64 200, .int .i64 301, .int .i64 302, .int .i64 304, .int .i64 500, .int .i64 0] 3)).cell? ⟨n0 + k, qn, none⟩ = some (.int .i64 st) := by
  rw [← hk, blk_cell (blk_new W 3 _) qn, hst]
  have : qn = 0 ∨ qn = 1 ∨ qn = 2 ∨ qn = 3 ∨ qn = 4 ∨ qn = 5 := by omega
  rcases this with rfl | rfl | rfl | rfl | rfl | rfl <;> rfl
theorem cellB {W : World} {k n0 : Nat} {cb : UInt8} (hk : W.heap.size = n0 + k) : (W.alloc (.cells #[.int .u8 ((cb.toNat : Nat) : Int)] 5)).cell? ⟨n0 + k, 0, none⟩ = some (.int .u8 ((cb.toNat : Nat) : Int)) := by
  rw [← hk, blk_cell (blk_new W 5 _) 0]; rfl
theorem blk48 {W : World} {k n0 : Nat} (hk : W.heap.size = n0 + k) : Blk (W.alloc (.cells #[.bool false, .int .i64 0, .string ⟨#[]⟩, .string ⟨#[]⟩, .string ⟨#[]⟩, .slice none 0 0] 48)) (n0 + k) 48 [.bool false, .int .i64 0, .string ⟨#[]⟩, .string ⟨#[]⟩, .string ⟨#[]⟩, .slice none 0 0] := by
  rw [← hk]; exact blk_new W 48 _
theorem cell_on {W : World} {a : Addr} {v : Value} (h : W.cell? a = some v) (o : Obj) : (W.alloc o).cell? a = some v := by
  rw [World.cell?_alloc_some W a o (by rw [h]; rfl)]; exact h
theorem cell_turn {W W' : World} {g b off : Nat} {v : Value} (ht : Turned W W' g) (hne : b ≠ g) (h : W.cell? ⟨b, off, none⟩ = some v) : W'.cell? ⟨b, off, none⟩ = some v :=
  (World.cell?_of_block (a := ⟨b, off, none⟩) (ht.far b hne)).trans h
theorem below_three (w : World) (a b c : Obj) : Below w.heap.size w (((w.drew.alloc a).alloc b).alloc c) :=
  Below.andThen (Below.andThen (Below.andThen ((Below.refl _ w).drew) (below_one w.drew a)) (below_one _ b)) (below_one _ c)
theorem run_convX {o : Oper} {a : Act} {W : World} {b : Nat} {cb : UInt8} (x : Operand) (ho : o.op = .convert 46 9 x) (hx : a.eval x = .slice (some ⟨b, 0, none⟩) 1 1) (hc : W.cell? ⟨b, 0, none⟩ = some (.int .u8 ((cb.toNat : Nat) : Int))) :
    (execOp a.eval o).run Tryz.prog W = .ok (.value (.string (bs [cb]))) W := by
  have h := run_convert_bytes_back (P := Tryz.prog) W 46 9 5 ⟨b, 0, none⟩ 1 [cb] Tryz.underlying46 Tryz.underlying5 Tryz.underlying9 (fun j hj => by
    obtain rfl : j = 0 := by simp at hj; omega
    exact hc)
  unfold execOp
  simp only [ho, hx]
  rw [Sem.run_bind]
  have h' : (convert 46 9 (.slice (some ⟨b, 0, none⟩) 1 1)).run Tryz.prog W = .ok (.string (bs [cb])) W := h
  rw [h']; rfl
theorem run_catX {o : Oper} {a : Act} {W : World} {cb : UInt8} (x : Operand) (ty : TypeId) (ho : o.op = .binOp .add 9 (.const (.string ⟨#[104, 116, 116, 112, 58, 47, 47, 106, 47]⟩)) x ty) (hx : a.eval x = .string (bs [cb])) :
    (execOp a.eval o).run Tryz.prog W = .ok (.value (.string (bs (hJ ++ [cb])))) W := by
  unfold execOp
  simp only [ho, hx]
  go_simp
  rw [if_neg (by rw [bs_size]; show ¬ _ < 9 + 1; decide), ← bs_cat]
  rfl
theorem wp_ran {P : Program} {o : Oper} {a : Act} {w W' : World} {K : Act → World → Prop} {Q : Exit → Act → World → Prop} {v : Value} (h1 : (execOp a.eval o).run P w = .ok (.value v) W') (h : K (a.put o.dst v) W') : o.wp P a w K Q := by
  unfold Oper.wp
  rw [h1]
  exact h
theorem run_alloc48 {o : Oper} {a : Act} {W : World} {g : Nat} (hg : W.heap.size = g) (ho : o.op = .alloc 48) : (execOp a.eval o).run Tryz.prog W = .ok (.value (.pointer (some ⟨g, 0, none⟩))) (W.alloc (.cells #[.bool false, .int .i64 0, .string ⟨#[]⟩, .string ⟨#[]⟩, .string ⟨#[]⟩, .slice none 0 0] 48)) := by
  subst hg
  unfold execOp
  simp only [ho]
  go_simp
theorem run_bs70 {o : Oper} {a : Act} {W : World} {g : Nat} (hg : W.heap.size = g) (ho : o.op = .buildSlice 70 6 #[(0, .const (.int .i64 200)), (1, .const (.int .i64 301)), (2, .const (.int .i64 302)), (3, .const (.int .i64 304)), (4, .const (.int .i64 500)), (5, .const (.int .i64 0))]) :
    (execOp a.eval o).run Tryz.prog W = .ok (.value (.slice (some ⟨g, 0, none⟩) 6 6)) (W.alloc (.cells #[.int .i64 200, .int .i64 301, .int .i64 302, .int .i64 304, .int .i64 500, .int .i64 0] 3)) := by
  subst hg
  unfold execOp
  simp only [ho]
  go_simp
theorem run_bs46 {o : Oper} {a : Act} {W : World} {g : Nat} (hg : W.heap.size = g) {y : Int} (x : Operand) (ho : o.op = .buildSlice 46 1 #[(0, x)]) (hx : a.eval x = .int .u8 y) :
    (execOp a.eval o).run Tryz.prog W = .ok (.value (.slice (some ⟨g, 0, none⟩) 1 1)) (W.alloc (.cells #[.int .u8 y] 5)) := by
  subst hg
  unfold execOp
  generalize a.eval = ev at *
  simp only [ho]
  go_simp
theorem ex_qn (c : Int) (h : 0 ≤ c) : ∃ qn : Nat, c.tmod 6 = (qn : Int) ∧ qn < 6 ∧ ¬ (6 : Int) ≤ (qn : Int) ∧ wrap64 (qn : Int) = (qn : Int) ∧ IntKind.i64.wrap (qn : Int) = (qn : Int) := by
  have h1 : 0 ≤ c.tmod 6 := Int.tmod_nonneg _ h
  have h2 : c.tmod 6 < 6 := Int.tmod_lt_of_pos _ (by decide)
  exact ⟨(c.tmod 6).toNat, by omega, by omega, by omega, IntWalk.wrap64_in _ (by omega), IntWalk.i64_in _ (by omega)⟩
theorem ex_cb (c : Int) (h : 0 ≤ c) : ∃ cb : UInt8, IntKind.u8.wrap (97 + c.tmod 26) = ((cb.toNat : Nat) : Int) := by
  have h1 : 0 ≤ c.tmod 26 := Int.tmod_nonneg _ h
  have h2 : c.tmod 26 < 26 := Int.tmod_lt_of_pos _ (by decide)
  exact ⟨UInt8.ofNat (97 + c.tmod 26).toNat, by rw [IntKind.wrap_u8, UInt8.toNat_ofNat']; omega⟩
theorem ex_st (qn : Nat) (h : qn < 6) : ∃ st : Int, st = [200, 301, 302, 304, 500, 0].getD qn 0 ∧ (st = 200 ∨ st = 301 ∨ st = 302 ∨ st = 304 ∨ st = 500 ∨ st = 0) := by
  refine ⟨_, rfl, ?_⟩
  have : qn = 0 ∨ qn = 1 ∨ qn = 2 ∨ qn = 3 ∨ qn = 4 ∨ qn = 5 := by omega
  rcases this with rfl | rfl | rfl | rfl | rfl | rfl <;> simp
theorem nowPQ {w W : World} {lo hi g : Nat} {A : Option Addr} {cap : Nat} {gs : List Nat} {per now : Int} {ss : List Src} (h : PQ w W lo hi g A cap gs per now ss) : Calls Tryz.prog 34 #[ptr g] W fun e w' => e = .returned (.int .i64 now) ∧ W = w' := now_any h.pol
/-- Hear of the first of two sources, that is out. -/
theorem hear0 (per now : Int) (s s1 : Src) (a : Ans) (n : Nat) (h : s.out = true) : hearL per now [s, s1] 0 a n = ([(hearA per now s a n).1, s1], (hearA per now s a n).2, 0) := by
  unfold hearL
  rw [if_pos]
  · rfl
  · exact ⟨Int.le_refl _, by show (0 : Int) < 2; decide, h⟩
theorem hear0PQ {w W : World} {lo hi g : Nat} {A : Option Addr} {cap : Nat} {gs : List Nat} {per now : Int} {s s1 : Src} (h : PQ w W lo hi g A cap gs per now [s, s1]) (hT : Tabs w) (hnow : 0 ≤ now ∧ now ≤ 1000000000) (hper : 1 ≤ per ∧ per ≤ 1048576) (a : Ans) (hbd : a.body = .slice none 0 0)
    (hloc : a.loc.length ≤ 1000000) (het : a.etag.length ≤ 1000000) (hmo : a.mod.length ≤ 1000000) (ho : s.out = true) (R : Src × Bool) (hR : R = hearA per now s a 0) :
    Calls Tryz.prog 32 #[ptr g, .int .i64 0, .agg (acs a).toArray] W fun e w' =>
      (∃ v, e = .returned (.tuple #[v, .bool R.2, .int .i64 0])) ∧ PQ w w' lo hi g A cap gs per now [R.1, s1] ∧ Only lo hi W w' := by
  have hh := hearPQ h hT hnow hper 0 a [] none 0 hbd (fun _ _ => Rd.nil) (by decide) hloc het hmo
  rw [show (([] : Bs).length) = 0 from rfl, hear0 per now s s1 a 0 ho, ← hR] at hh
  refine hh.mono ?_
  rintro e w' ⟨⟨v, he, _, _⟩, hp, ho⟩
  exact ⟨⟨v, he⟩, hp, ho⟩
end Go.Proofs.YtcpkkaimingnlaaGreatDoor
