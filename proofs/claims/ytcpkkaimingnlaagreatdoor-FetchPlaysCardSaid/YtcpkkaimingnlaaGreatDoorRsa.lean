/-
  Steps within a region that draws: texts copied, a text more; loads and rows laid.
-/
import Derived.Test.YtcpkkaimingnlaaGreatDoorRh2
set_option linter.unusedVariables false
set_option linter.unusedSimpArgs false
namespace Go.Proofs.YtcpkkaimingnlaaGreatDoor
open Go.RowKit

theorem LedRd.rd {W : World} {P : Nat → Prop} {r : RSrc} (h : LedRd W P r) : Rd W W.heap.size 1 r.ledA r.led.length (strs r.led) := by
  refine ⟨by simp [strs], fun hn => ?_⟩
  rcases h.at' with e | ⟨b, e, _, h2, h3⟩
  · rw [e] at hn; cases hn
  · refine ⟨b, 0, e, h2, fun j hj => ?_⟩
    rw [Nat.zero_add, h3 j (by omega)]
    have hj' : j < r.led.length := by omega
    simp [strs, hj']
section
variable {o : Oper} {a : Act} {w : World} {K : Act → World → Prop} {Q : Exit → Act → World → Prop} {E : Prop}
/-- 'append([]string{}, l...)', a step. -/
theorem step_copyS {ops : Array Oper} (hgd : o.guard = none) (s x : Operand)
    (ho : o.op = .call { callee := .builtin .append, args := #[s, x], argTypes := #[38, 38] })
    (base : Nat) (hbase : base ≤ w.heap.size) (g0 : Nat) (hs : a.eval s = .slice (some ⟨g0, 0, none⟩) 0 0) (hown : SOwn w base (.slice (some ⟨g0, 0, none⟩) 0 0) []) (B : Nat) (A : Option Addr) (l : List Bs) (c : Nat) (hx : a.eval x = .slice A l.length c) (hr : Rd w B 1 A l.length (strs l)) (hn : l.length ≤ 8000000)
    (h : ∀ A' cap w', SOwn w' base (.slice A' l.length cap) l → Below base w w' → K (a.put o.dst (.slice A' l.length cap)) w') :
    if Region.wanted o (yielded ops a.tmps) = true then Oper.wp Tryz.prog o a w K Q else E := by
  have hw : Region.wanted o (yielded ops a.tmps) = true := by simp [Region.wanted, hgd]
  rw [if_pos hw]
  obtain ⟨i0, hi, hz0, hz1, hz2⟩ := info_parts infoS
  by_cases hA : A = none
  · subst hA
    have hm : l.length = 0 := by
      rcases Nat.eq_zero_or_pos l.length with h0 | h0
      · exact h0
      · obtain ⟨b, off, e, _⟩ := hr.2 h0
        cases e
    have hl : l = [] := List.length_eq_zero_iff.1 hm
    subst hl
    have hrun : (Builtin.append_ #[38, 38] o.type #[.slice (some ⟨g0, 0, none⟩) 0 0, .slice none ([] : List Bs).length c]).run Tryz.prog w = .ok (.slice (some ⟨g0, 0, none⟩) 0 0) w := by
      simp [Builtin.append_, run_underlying Tryz.underlying38, sizeOf, typeInfo, hi, Builtin.lenOf, Builtin.firstCells, storeCells]
    unfold Oper.wp execOp
    simp only [ho, resolve, invoke, builtin, Sem.run_bind, Sem.run_pure, Result.andThen_ok, List.map_toArray, List.map_cons, List.map_nil, hs, hx, hrun]
    exact h (some ⟨g0, 0, none⟩) 0 w hown (Below.refl _ _)
  · obtain ⟨ad, rfl⟩ : ∃ ad, A = some ad := by cases A with
      | none => exact absurd rfl hA
      | some ad => exact ⟨ad, rfl⟩
    obtain ⟨v', w', hr1, h2, h3, h4⟩ := run_append_own (P := Tryz.prog) w base 38 o.type 9 i0 _ 1 16 Tryz.underlying38 hi hz0 hz1 hz2 rfl (by decide) _ 0 (strs []) hown ad l.length c (strs l) hr.1 (fun j u hu => by
      rcases Nat.eq_zero_or_pos l.length with h0 | h0
      · have hl : l = [] := List.length_eq_zero_iff.1 h0
        subst hl
        simp [strs] at hu
      · obtain ⟨b, off, e, _, hc⟩ := hr.2 h0
        cases e
        rw [add_eq]
        have hj : j < (strs l).length := by
          rcases Nat.lt_or_ge j (strs l).length with h | h
          · exact h
          · rw [List.getElem?_eq_none h] at hu; cases hu
        rw [hc j (by rw [← hr.1]; exact hj)]
        exact hu) (strs_one l) (by unfold maxLen; omega) (by omega) hbase
    obtain ⟨A', cap, rfl, _⟩ := own_form h2
    unfold Oper.wp execOp
    simp only [ho, resolve, invoke, builtin, Sem.run_bind, Sem.run_pure, Result.andThen_ok, List.map_toArray, List.map_cons, List.map_nil, hs, hx, hr1]
    have e0 : 0 + l.length = l.length := Nat.zero_add _
    rw [e0] at h2 ⊢
    exact h A' cap w' h2 ((Below.refl base w).grown h3 hbase (fun k hk => own_size hown k hk))
theorem run_ld38 {g k : Nat} {v : Value} (x : Operand) (ho : o.op = .load 38 x) (hx : a.eval x = .pointer (some ⟨g, k, none⟩)) (hc : w.cell? ⟨g, k, none⟩ = some v) : (execOp a.eval o).run Tryz.prog w = .ok (.value v) w := by
  unfold execOp
  generalize a.eval = ev at *
  simp only [ho]
  go_simp
theorem run_bs38n (ho : o.op = .buildSlice 38 0 #[]) : (execOp a.eval o).run Tryz.prog w = .ok (.value (.slice (some ⟨w.heap.size, 0, none⟩) 0 0)) (w.alloc (.cells #[] 9)) := by
  unfold execOp
  generalize a.eval = ev at *
  simp only [ho]
  go_simp
theorem run_bs38o {T : Bs} (x : Operand) (ho : o.op = .buildSlice 38 1 #[(0, x)]) (hx : a.eval x = .string (bs T)) : (execOp a.eval o).run Tryz.prog w = .ok (.value (.slice (some ⟨w.heap.size, 0, none⟩) 1 1)) (w.alloc (.cells #[.string (bs T)] 9)) := by
  unfold execOp
  generalize a.eval = ev at *
  simp only [ho]
  go_simp
theorem run_ld24 {g : Nat} {l : Link} (x : Operand) (ho : o.op = .load 24 x) (hx : a.eval x = .pointer (some ⟨g, 0, none⟩)) (hb : Blk w g 24 (lcs l)) : (execOp a.eval o).run Tryz.prog w = .ok (.value (.agg (lcs l).toArray)) w := by
  unfold execOp
  simp only [ho, hx, Instr.loadAt, Instr.sureAddr, Sem.run_bind, Sem.run_pure, Result.andThen_ok, run_loadVar_row (P := Tryz.prog) w g 24 24 (lcs l).toArray (0, 0) _ hb Tryz.underlying24 rfl info24]
end
/-- A call of one argument, by its contract, a step. -/
theorem wp_callK {P : Program} {o : Oper} {a : Act} {w : World} {K : Act → World → Prop} {Q : Exit → Act → World → Prop} {f : FuncId} {args : Array Value} (hrun : (execOp a.eval o).run P w = .ok (.enter f args) w) {Post : Ending → World → Prop} (hc : Calls P f args w Post)
    (h : ∀ e w', Post e w' → ∃ v, e = .returned v ∧ K (a.put o.dst v) w') : o.wp P a w K Q := by
  unfold Oper.wp
  rw [hrun, Oper.upon_enter]
  refine hc.mono fun e w' hh => ?_
  obtain ⟨v, rfl, hk⟩ := h e w' hh
  exact hk
theorem run_call71 {o : Oper} {a : Act} {w : World} {l : Link} (x : Operand) (ho : o.op = .call { callee := .value (.func 71), args := #[x], argTypes := #[24] }) (hx : a.eval x = .agg (lcs l).toArray) : (execOp a.eval o).run Tryz.prog w = .ok (.enter 71 #[.agg (lcs l).toArray]) w := by
  unfold execOp
  simp only [ho]
  go_simp
  cases x <;> first | (simp [Act.eval] at hx; done) | simpa [Act.eval] using hx
/-- A list of links, owned, is the list of a source. -/
theorem LedRd.own {W : World} {B : Nat} {P : Nat → Prop} {A : Option Addr} {c : Nat} {l : List Bs} {r : RSrc} (h : SOwn W B (.slice A l.length c) l) (hP : ∀ b, B ≤ b → P b) (h1 : r.led = l) (h2 : r.ledA = A) (h3 : r.ledC = c) : LedRd W P r := by
  subst h1 h2 h3
  refine ⟨?_, ?_⟩
  · rcases Nat.eq_zero_or_pos r.led.length with h0 | h0
    · exact .inl (List.length_eq_zero_iff.1 h0)
    · obtain ⟨g, hg, hb1, hb2⟩ := own_some h h0
      refine .inr ⟨g, hg, hP g hb1, hb2, fun j hj => ?_⟩
      obtain ⟨b, off, e, _, hc⟩ := (Rd.of_own h).at_ h0
      rw [hg] at e
      injection e with e
      injection e with e1 e2
      subst e1 e2
      have := hc j (by omega)
      rw [Nat.zero_add] at this
      rw [this]
      simp [strs, hj]
  · rcases h.2 with ⟨e, h0⟩ | ⟨g, cp, cur, e, _, _, hc, hm, _⟩
    · injection e with _ _ e
      omega
    · injection e with _ _ e
      unfold maxLen at hm
      omega
end Go.Proofs.YtcpkkaimingnlaaGreatDoor
