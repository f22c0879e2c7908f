/-
  A slice of bytes, read as a text.
-/
import Derived.Test.YtcpkkaimingnlaaGreatDoorFpm
set_option linter.unusedVariables false
set_option linter.unusedSimpArgs false
namespace Go.Proofs.YtcpkkaimingnlaaGreatDoor
open Go.RowKit

theorem conv46 {w : World} {B : Nat} {A : Option Addr} {l : Bs} (c : Nat) (h : Rd w B 1 A l.length (Lib.byteCells l)) : (convert 46 9 (.slice A l.length c)).run Tryz.prog w = .ok (.string (bs l)) w := by
  rcases Nat.eq_zero_or_pos l.length with h0 | h0
  · have hl : l = [] := List.length_eq_zero_iff.1 h0
    subst hl
    cases A with
    | none =>
      rw [run_convert_bytes_string w 46 9 5 none ([] : Bs).length c Tryz.underlying46 Tryz.underlying5 Tryz.underlying9]
      rfl
    | some a => exact run_convert_bytes_back w 46 9 5 a c [] Tryz.underlying46 Tryz.underlying5 Tryz.underlying9 (fun j hj => absurd hj (by simp))
  · obtain ⟨b, off, rfl, _, hc⟩ := h.at_ h0
    refine run_convert_bytes_back w 46 9 5 ⟨b, off, none⟩ c l Tryz.underlying46 Tryz.underlying5 Tryz.underlying9 (fun j hj => ?_)
    rw [add_eq, hc j (by omega)]
    unfold Lib.byteCells
    simp [hj]
theorem run_conv46 {o : Oper} {a : Act} {w : World} {B : Nat} {A : Option Addr} {l : Bs} (c : Nat) (x : Operand) (ho : o.op = .convert 46 9 x) (hx : a.eval x = .slice A l.length c) (h : Rd w B 1 A l.length (Lib.byteCells l)) : (execOp a.eval o).run Tryz.prog w = .ok (.value (.string (bs l))) w := by
  unfold execOp
  simp only [ho, hx]
  rw [Sem.run_bind, conv46 c h]
  rfl
theorem info5 : (Tryz.prog.info? 5).map (·.size) = some 1 := by kernel_rfl
theorem run_ld46 {o : Oper} {a : Act} {w : World} {g k : Nat} {v : Value} (x : Operand) (ho : o.op = .load 46 x) (hx : a.eval x = .pointer (some ⟨g, k, none⟩)) (hc : w.cell? ⟨g, k, none⟩ = some v) : (execOp a.eval o).run Tryz.prog w = .ok (.value v) w := by
  unfold execOp
  generalize a.eval = ev at *
  simp only [ho]
  go_simp
theorem run_ld3 {o : Oper} {a : Act} {w : World} {g k : Nat} {v : Value} (x : Operand) (ho : o.op = .load 3 x) (hx : a.eval x = .pointer (some ⟨g, k, none⟩)) (hc : w.cell? ⟨g, k, none⟩ = some v) : (execOp a.eval o).run Tryz.prog w = .ok (.value v) w := by
  unfold execOp
  generalize a.eval = ev at *
  simp only [ho]
  go_simp
theorem run_call34 {o : Oper} {a : Act} {w : World} {g : Nat} (x : Operand) (ho : o.op = .call { callee := .value (.func 34), args := #[x], argTypes := #[40] }) (hx : a.eval x = ptr g) : (execOp a.eval o).run Tryz.prog w = .ok (.enter 34 #[ptr g]) w := by
  unfold execOp
  simp only [ho]
  go_simp
  cases x <;> first | (simp [Act.eval] at hx; done) | simpa [Act.eval] using hx
theorem run_xor5 {o : Oper} {a : Act} {w : World} (y : Int) (x : Operand) (ty : TypeId) (ho : o.op = .binOp .xor 5 x (.const (.int .u8 255)) ty) (hx : a.eval x = .int .u8 y) : (execOp a.eval o).run Tryz.prog w = .ok (.value (.int .u8 (bits BinOp.xor IntKind.u8 y 255))) w := by
  unfold execOp
  simp only [ho, hx]
  have hc : a.eval (.const (.int .u8 255)) = .int .u8 255 := rfl
  rw [hc]
  generalize a.eval = ev at *
  go_simp
theorem xor_cells {cs : List Value} {n x : Nat} (z : Int) (h : ∀ k, k < n → ∃ y, cs[k]? = some (.int .u8 y)) (hx : x < cs.length) : ∀ k, k < n → ∃ y, (cs.set x (.int .u8 z))[k]? = some (.int .u8 y) := fun k hk => by
  by_cases e : x = k
  · subst e
    exact ⟨z, by rw [List.getElem?_set_self hx]⟩
  · obtain ⟨y, hy⟩ := h k hk
    exact ⟨y, by rw [List.getElem?_set_ne e]; exact hy⟩
end Go.Proofs.YtcpkkaimingnlaaGreatDoor
