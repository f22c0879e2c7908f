/-
  Texts of this seat, joined: Lbw, Lga. Each says what it proves, ahead of itself.
-/
import Derived.Test.YtcpkkaimingnlaaGreatDoorMF
import Derived.Lib.AppendStr
set_option linter.unusedVariables false
set_option linter.unusedSimpArgs false
section
namespace Go.Proofs.YtcpkkaimingnlaaGreatDoor
open Go.RowKit

def Bld (w : World) (B b : Nat) (l : Bs) : Prop := Lib.IsBuilder 98 5 B b (Lib.byteCells l) w
theorem wpList_pushG {P : Program} {w : World} {ops : Array Oper} {rest : List Oper} {o : Oper} {a : Act} {Q : Exit → Act → World → Prop} (hgd : o.guard = none) (s x : Operand) (t : TypeId)
    (ho : o.op = .call { callee := .builtin .append, args := #[s, x], argTypes := #[t, t] })
    (base : Nat) (e : TypeId) (z : Value) (size bytes : Nat) (ht : P.underlying t = some (.slice e)) (hinfo : (P.info? e).map (fun i => (i.zero, i.size, i.bytes)) = some (some z, size, bytes))
    (hzs : z.cells.size = size) (hsz : 0 < size)
    (v : Value) (n : Nat) (xs : List Value) (hs : a.eval s = v) (hown : w.ownsRow base e size v n xs)
    (cs : Array Value) (m : Nat) (hm : 0 < m) (hx : a.eval x = .slice (some ⟨w.heap.size, 0, none⟩) m m) (hcs : cs.size = m * size) (h1 : cs.toList.all Value.oneCell' = true)
    (h63 : n + m ≤ 9223372036854775807) (hbytes : (n + m) * bytes ≤ 140737488355328) (hbase : base ≤ w.heap.size)
    (h : ∀ g cap w', w'.ownsRow base e size (.slice (some ⟨g, 0, none⟩) (n + m) cap) (n + m) (xs ++ cs.toList) → base ≤ g → Below base w w' → (w.alloc (.cells cs e)).grownBy w' v.ownBlock →
      wpList P ops Q rest (a.put o.dst (.slice (some ⟨g, 0, none⟩) (n + m) cap)) w') : wpList P ops Q (o :: rest) a (w.alloc (.cells cs e)) := by
  obtain ⟨i0, hi, hz0, hz1, hz2⟩ := info_parts hinfo
  refine wpList_append_own _ hgd s x t ho base e i0 z size bytes ht hi hz0 hz1 hz2 hzs hsz v n xs hs (hown.alloc _) ⟨w.heap.size, 0, none⟩ m m cs.toList hx (by simpa using hcs) (cells_new w cs e) (List.all_eq_true.1 h1) (by unfold maxLen; omega) hbytes (by simp; omega) ?_
  intro v' w' hown' hg _
  obtain ⟨g, cap, rfl, hb, _⟩ := hown'.form (by omega)
  refine h g cap w' hown' hb ?_ hg
  exact ((Below.refl base w).alloc hbase _).grown hg (by simp; omega) (fun k hk => own_size hown k hk)
theorem infoB : (Tryz.prog.info? 5).map (fun i => (i.zero, i.size, i.bytes)) = some (some (.int .u8 0), 1, 1) := by kernel_rfl
theorem Bld.keep {w w' : World} {B b : Nat} {l : Bs} (h : Bld w B b l) (hb : Below w.heap.size w w') : Bld w' B b l := by
  have key : ∀ {p : Value}, Lib.BuilderAt 98 5 B b p (Lib.byteCells l) w → Lib.BuilderAt 98 5 B b p (Lib.byteCells l) w' := by
    intro p hp
    have hlt := hp.lt
    obtain ⟨hB, v, hbk, hown, hne⟩ := hp
    exact ⟨hB, v, (hb.block b hlt).trans hbk, own_keep hown hb, hne⟩
  exact h.elim (fun h => .inl (key h)) (fun h => .inr (key h))
end Go.Proofs.YtcpkkaimingnlaaGreatDoor
end
section
namespace Go.Proofs.YtcpkkaimingnlaaGreatDoor
open Go.RowKit

theorem sB_parse {s : Bs} {l : Link} (h : parseP s = some l) : sB l ∧ s.length ≤ 2048 := by
  obtain ⟨h1, h2, _, h4⟩ := (parseP_iff s l).1 h
  have hl := congrArg List.length h2
  unfold printL originL at hl
  simp only [List.length_append] at hl
  refine ⟨⟨by omega, by omega, h4.port, by omega, ?_, ?_⟩, h1⟩
  · cases hq : l.hasQ with
    | false => rw [h4.noQ hq]; exact Nat.zero_le _
    | true => unfold qT at hl; rw [if_pos hq] at hl; simp only [List.length_cons] at hl; omega
  · cases hq : l.hasF with
    | false => rw [h4.noF hq]; exact Nat.zero_le _
    | true => unfold fT at hl; rw [if_pos hq] at hl; simp only [List.length_cons] at hl; omega
theorem sB_zero : sB Link.zero := by unfold sB; decide
theorem sB_get (s : Bs) : sB ((parseP s).getD Link.zero) := by
  cases h : parseP s with
  | none => exact sB_zero
  | some l => exact (sB_parse h).1
end Go.Proofs.YtcpkkaimingnlaaGreatDoor
end
