/-
  Texts of this seat, joined: Rby, Fag, Fol. Each says what it proves, ahead of itself.
-/
import Derived.Test.YtcpkkaimingnlaaGreatDoorMG
import Derived.Test.YtcpkkaimingnlaaGreatDoorMJ
import Derived.ChangeSlices
import Derived.ChangeSame
import Derived.Carry
import Derived.Test.YtcpkkaimingnlaaGreatDoorFD
import Derived.Deep.Slices
import Derived.Deep.Fields
set_option linter.unusedVariables false
set_option linter.unusedSimpArgs false
section
namespace Go.Proofs.YtcpkkaimingnlaaGreatDoor
open Go.ChangeShapes Go.WideShapes Go.ChangeAt Go.RowKit
open Go.ChangeMaps (open_string shut_string)

/-- WHAT THE WALK IS TOLD OF A SLICE OF INTEGERS THAT CAME IN. -/
def IsRow (k : IntKind) (w : World) (a : Option Addr) (len cap : Nat) (zs : List Int) : Prop :=
  (a = Option.none ∧ len = 0 ∧ cap = 0 ∧ zs = []) ∨
  ∃ x, a = some x ∧ len ≤ cap ∧ cap ≤ maxLen ∧ zs.length = cap ∧ (∀ i, i < zs.length → w.cell? (x.add i) = some (.int k (zs.getD i 0))) ∧ ∀ n ∈ zs, (Lit.int k n).wf = true
theorem wf_u8 {n : Int} (h : (Lit.int .u8 n).wf = true) : 0 ≤ n ∧ n < 256 := by
  simp only [Lit.wf, Bool.and_eq_true, decide_eq_true_eq] at h
  have h1 : IntKind.u8.min = 0 := rfl
  have h2 : IntKind.u8.max = 255 := rfl
  omega
/-- A slice of bytes that came in reads as a list of bytes. -/
theorem IsRow.rd {w : World} {a : Option Addr} {len cap : Nat} {zs : List Int} (h : IsRow .u8 w a len cap zs) :
    ∃ l : List UInt8, l.length = len ∧ Rd w w.heap.size 1 a len (Lib.byteCells l) ∧ len ≤ cap ∧ cap < 9223372036854775808 := by
  rcases h with ⟨rfl, rfl, rfl, rfl⟩ | ⟨x, rfl, hl, hm, hz, hc, hw⟩
  · exact ⟨[], rfl, Rd.nil, Nat.le_refl _, by decide⟩
  · refine ⟨(zs.take len).map fun n => UInt8.ofNat n.toNat, by simp; omega, ⟨by simp [Lib.byteCells]; omega, fun hn => ?_⟩, hl, by unfold maxLen at hm; omega⟩
    obtain ⟨b, off, spot⟩ := x
    have h0 := hc 0 (by omega)
    have hspot : spot = Option.none := by simpa [Addr.add] using World.cell?_spot h0
    subst hspot
    have hb : b < w.heap.size := by
      have h1 : w.cell? ⟨b, off, Option.none⟩ = some (.int .u8 (zs.getD 0 0)) := by simpa [Addr.add] using h0
      rcases Nat.lt_or_ge b w.heap.size with h' | h'
      · exact h'
      · simp [World.cell?, h'] at h1
    refine ⟨b, off, rfl, hb, fun j hj => ?_⟩
    have hj' : j < zs.length := by omega
    have h2 := hc j hj'
    rw [add_eq] at h2
    rw [h2]
    have hjl : j < len := by omega
    have hwf := wf_u8 (hw (zs.getD j 0) (by simp [hj']))
    simp only [Lib.byteCells, List.map_map]
    have hg : zs.getD j 0 = zs[j] := by simp [hj']
    rw [hg] at hwf ⊢
    simp [hjl, hj']
    omega

end Go.Proofs.YtcpkkaimingnlaaGreatDoor
end
section
namespace Go.Proofs.YtcpkkaimingnlaaGreatDoor
open Go.RowKit Go.ChangeShapes Go.WideShapes Go.Deep

theorem cell_spot {w : World} {a : Addr} {v : Value} (h : w.cell? a = some v) : a.spot = none ∧ a.block < w.heap.size := by
  obtain ⟨b, o, s⟩ := a
  unfold World.cell? at h
  dsimp only at h
  split at h
  · rename_i c t f hc
    refine ⟨?_, (Array.getElem?_eq_some_iff.1 hc).1⟩
    cases s with
    | none => rfl
    | some x => simp at h
  · cases h
section
variable {H : Type} {enc : TypeId × Value → H} {w : World} {held : Bool}
theorem open_body {n : Nat} {v : Value} {x : DataW H × List MemPlace} (h : DataW.trod enc Tryz.prog w 0 (fun _ => true) held n 46 [v] = some x) :
    ∃ (lb : Bs) (A : Option Addr) (c : Nat), v = .slice A lb.length c ∧ lb.length ≤ c ∧ c ≤ 9223372036854775807 ∧ Rd w w.heap.size 1 A lb.length (Lib.byteCells lb) := by
  rcases open_ints Tryz.underlying46 Tryz.underlying5 (by kernel_rfl) h with ⟨hcs, _⟩ | ⟨a, l, c, zs, hcs, _, hl, hm, hz, _, hcell, hwz⟩
  · obtain rfl : v = .slice none 0 0 := by simpa using hcs
    exact ⟨[], none, 0, rfl, Nat.zero_le _, Nat.zero_le _, Rd.nil⟩
  · obtain rfl : v = .slice (some a) l c := by simpa using hcs
    obtain ⟨lb, h1, h2, h3, h4⟩ := IsRow.rd (w := w) (a := some a) (len := l) (cap := c) (zs := zs) (.inr ⟨_, rfl, hl, hm, by simpa using hz, hcell, hwz⟩)
    subst h1
    exact ⟨lb, some a, c, rfl, h3, by omega, h2⟩
set_option maxRecDepth 100000 in
theorem open_op {n : Nat} {cs : List Value} {x : DataW H × List MemPlace} (h : DataW.trod enc Tryz.prog w 0 (fun _ => true) held n 50 cs = some x) : ∃ o : Opn, cs = opc o ∧ BodyRd w o.a o.lb := by
  obtain ⟨ys, n', hn, hx, hl, hyl, hf⟩ := DataW.trod_struct Tryz.underlying50 h
  rw [show Tryz.prog.cellsOf 50 = 8 by kernel_rfl] at hl
  match cs, hl with
  | [c0, c1, c2, c3, c4, c5, c6, c7], _ =>
    match ys, hyl with
    | [y0, y1, y2], _ =>
      have f0 := hf 0 _ rfl
      have f1 := hf 1 _ rfl
      have f2 := hf 2 _ rfl
      have f0 : DataW.trod enc Tryz.prog w 0 (fun _ => true) held n' 3 ([c0, c1, c2, c3, c4, c5, c6, c7].take (Tryz.prog.cellsOf 3)) = some y0 := f0
      have f1 : DataW.trod enc Tryz.prog w 0 (fun _ => true) held n' 3 ([c1, c2, c3, c4, c5, c6, c7].take (Tryz.prog.cellsOf 3)) = some y1 := f1
      have f2 : DataW.trod enc Tryz.prog w 0 (fun _ => true) held n' 48 ([c2, c3, c4, c5, c6, c7].take (Tryz.prog.cellsOf 48)) = some y2 := f2
      rw [show Tryz.prog.cellsOf 3 = 1 by kernel_rfl] at f0 f1
      rw [show Tryz.prog.cellsOf 48 = 6 by kernel_rfl] at f2
      have f0 : DataW.trod enc Tryz.prog w 0 (fun _ => true) held n' 3 [c0] = some y0 := f0
      have f1 : DataW.trod enc Tryz.prog w 0 (fun _ => true) held n' 3 [c1] = some y1 := f1
      have f2 : DataW.trod enc Tryz.prog w 0 (fun _ => true) held n' 48 [c2, c3, c4, c5, c6, c7] = some y2 := f2
      obtain ⟨zs, n2, hn2, hx2, hl2, hyl2, hf2⟩ := DataW.trod_struct Tryz.underlying48 f2
      match zs, hyl2 with
      | [z0, z1, z2, z3, z4, z5], _ =>
        have g0 := hf2 0 _ rfl
        have g1 := hf2 1 _ rfl
        have g2 := hf2 2 _ rfl
        have g3 := hf2 3 _ rfl
        have g4 := hf2 4 _ rfl
        have g5 := hf2 5 _ rfl
        have c1' : ∀ t, t = 4 ∨ t = 3 ∨ t = 9 ∨ t = 46 → Tryz.prog.cellsOf t = 1 := by
          rintro t (rfl | rfl | rfl | rfl) <;> kernel_rfl
        rw [c1' _ (by decide)] at g0 g1 g2 g3 g4 g5
        have g0 : DataW.trod enc Tryz.prog w 0 (fun _ => true) held n2 4 [c2] = some z0 := g0
        have g1 : DataW.trod enc Tryz.prog w 0 (fun _ => true) held n2 3 [c3] = some z1 := g1
        have g2 : DataW.trod enc Tryz.prog w 0 (fun _ => true) held n2 9 [c4] = some z2 := g2
        have g3 : DataW.trod enc Tryz.prog w 0 (fun _ => true) held n2 9 [c5] = some z3 := g3
        have g4 : DataW.trod enc Tryz.prog w 0 (fun _ => true) held n2 9 [c6] = some z4 := g4
        have g5 : DataW.trod enc Tryz.prog w 0 (fun _ => true) held n2 46 [c7] = some z5 := g5
        obtain ⟨k0, e0, _⟩ := DataW.trod_int Tryz.underlying3 f0
        obtain ⟨k1, e1, _⟩ := DataW.trod_int Tryz.underlying3 f1
        obtain ⟨k2, e2, _⟩ := DataW.trod_bool Tryz.underlying4 g0
        obtain ⟨k3, e3, _⟩ := DataW.trod_int Tryz.underlying3 g1
        obtain ⟨s4, e4, _⟩ := DataW.trod_string Tryz.underlying9 g2
        obtain ⟨s5, e5, _⟩ := DataW.trod_string Tryz.underlying9 g3
        obtain ⟨s6, e6, _⟩ := DataW.trod_string Tryz.underlying9 g4
        obtain ⟨lb, A, c, rfl, h1, h2, h3⟩ := open_body g5
        refine ⟨⟨k0, k1, ⟨k2, k3, s4.data.toList, s5.data.toList, s6.data.toList, .slice A lb.length c⟩, lb⟩, ?_, A, c, rfl, h1, h2, h3⟩
        obtain rfl : c0 = .int .i64 k0 := by simpa using e0
        obtain rfl : c1 = .int .i64 k1 := by simpa using e1
        obtain rfl : c2 = .bool k2 := by simpa using e2
        obtain rfl : c3 = .int .i64 k3 := by simpa using e3
        obtain rfl : c4 = .string s4 := by simpa using e4
        obtain rfl : c5 = .string s5 := by simpa using e5
        obtain rfl : c6 = .string s6 := by simpa using e6
        rfl
set_option maxRecDepth 100000 in
theorem open_ops {v : Value} {d : DataW H} {pl : List MemPlace} {r : Reach} {b0 : Nat} (hval : Value.okWide Tryz.prog w r b0 39 v) (h : DataW.Trod enc Tryz.prog w 0 (fun _ => true) held 39 v d pl) :
    ∃ (os : List Opn) (A : Option Addr) (c : Nat), v = .slice A os.length c ∧ os.length ≤ c ∧ c ≤ 9223372036854775807 ∧ ScRd w A os := by
  obtain ⟨a0, l0, c0, rfl⟩ := okWide_slice Tryz.underlying39 hval
  obtain ⟨fuel, hf⟩ := h
  rcases open_slice Tryz.underlying39 hf with ⟨h0, _⟩ | ⟨a, len, cap, m, n, D, Pl, h0, hb, hl, hm, hmm, hx, hi⟩
  · obtain ⟨rfl, rfl, rfl⟩ : a0 = none ∧ l0 = 0 ∧ c0 = 0 := by simpa [Value.cells] using h0
    exact ⟨[], none, 0, rfl, Nat.zero_le _, Nat.zero_le _, ⟨.inl rfl, fun o ho => by cases ho⟩⟩
  · obtain ⟨rfl, rfl, rfl⟩ : a0 = some a ∧ l0 = len ∧ c0 = cap := by simpa [Value.cells] using h0
    have hle : l0 ≤ m := by rw [hmm]; split <;> omega
    have c8 : Tryz.prog.cellsOf 50 = 8 := by kernel_rfl
    rw [c8] at hi
    have hs : ∀ i, i < l0 → ∃ o : Opn, (∀ k, k < 8 → w.cell? (a.add (i * 8 + k)) = (opc o)[k]?) ∧ BodyRd w o.a o.lb := fun i h => by
      obtain ⟨cs', h1, h2⟩ := hi i (by omega)
      obtain ⟨o, rfl, h3⟩ := open_op h2
      refine ⟨o, fun k hk => ?_, h3⟩
      rw [← (World.cells?_some h1).2.2 k hk, add_add]
    obtain ⟨f, hf⟩ := choose_lt (α := Opn) (p := fun i o => (∀ k, k < 8 → w.cell? (a.add (i * 8 + k)) = (opc o)[k]?) ∧ BodyRd w o.a o.lb) hs
    refine ⟨(List.range l0).map f, some a, c0, by rw [List.length_map, List.length_range], by rw [List.length_map, List.length_range]; exact hl, by unfold maxLen at hm; exact hm, ⟨?_, fun o ho => ?_⟩⟩
    · by_cases h0 : l0 = 0
      · subst h0; exact .inl rfl
      · refine .inr ?_
        have h00 := (hf 0 (by omega)).1 0 (by decide)
        obtain ⟨hsp, hbl⟩ := cell_spot (h00.trans rfl)
        have ha : a.add (0 * 8 + 0) = a := rfl
        rw [ha] at hsp hbl
        obtain ⟨b, o, s⟩ := a
        dsimp only at hsp
        subst hsp
        refine ⟨b, o, rfl, hbl, fun i hi => ?_⟩
        rw [List.length_map, List.length_range] at hi
        have h1 := (hf i hi).1
        have hpa : ((List.range l0).map f).getD i default = f i := by
          rw [List.getD_eq_getElem?_getD, List.getElem?_map, List.getElem?_range hi]; rfl
        rw [hpa]
        intro k hk
        have := h1 k hk
        rw [add_eq, ← Nat.add_assoc] at this
        exact this
    · obtain ⟨i, hi, rfl⟩ := List.mem_map.1 ho
      exact (hf i (List.mem_range.1 hi)).2
end
end Go.Proofs.YtcpkkaimingnlaaGreatDoor
end
section
namespace Go.Proofs.YtcpkkaimingnlaaGreatDoor
open Go.RowKit Go.ChangeShapes Go.WideShapes Go.Deep

section
variable {H : Type} {enc : TypeId × Value → H} {w : World} {held : Bool}
set_option maxRecDepth 100000 in
theorem open_links {v : Value} {d : DataW H} {pl : List MemPlace} {r : Reach} {b0 : Nat} (hval : Value.okWide Tryz.prog w r b0 38 v) (h : DataW.Trod enc Tryz.prog w 0 (fun _ => true) held 38 v d pl) :
    ∃ (ls : List Bs) (A : Option Addr) (c : Nat), v = .slice A ls.length c ∧ ls.length ≤ c ∧ c ≤ 9223372036854775807 ∧ Rd w w.heap.size 1 A ls.length (strs ls) ∧ ∀ s ∈ ls, s.length ≤ 9223372036854775807 := by
  obtain ⟨a0, l0, c0, rfl⟩ := okWide_slice Tryz.underlying38 hval
  obtain ⟨fuel, hf⟩ := h
  rcases open_slice1 Tryz.underlying38 (by kernel_rfl) hf with ⟨h0, _⟩ | ⟨a, len, cap, m, n, V, D, Pl, h0, hb, hl, hm, hmm, hx, hi⟩
  · obtain ⟨rfl, rfl, rfl⟩ : a0 = none ∧ l0 = 0 ∧ c0 = 0 := by simpa [Value.cells] using h0
    exact ⟨[], none, 0, rfl, Nat.zero_le _, Nat.zero_le _, Rd.nil, fun s hs => by cases hs⟩
  · obtain ⟨rfl, rfl, rfl⟩ : a0 = some a ∧ l0 = len ∧ c0 = cap := by simpa [Value.cells] using h0
    have hle : l0 ≤ m := by rw [hmm]; split <;> omega
    have hs : ∀ i, i < l0 → ∃ s : Bs, w.cell? (a.add i) = some (.string (bs s)) ∧ s.length ≤ 9223372036854775807 := fun i h => by
      obtain ⟨h1, h2⟩ := hi i (by omega)
      obtain ⟨s, h3, _, h4⟩ := DataW.trod_string Tryz.underlying9 h2
      refine ⟨s.data.toList, ?_, ?_⟩
      · rw [h1]
        obtain h3 : V i = .string s := by simpa using h3
        rw [h3]; rfl
      · unfold maxLen at h4
        rw [Array.length_toList]
        exact h4
    obtain ⟨f, hf⟩ := choose_lt (α := Bs) (p := fun i s => w.cell? (a.add i) = some (.string (bs s)) ∧ s.length ≤ 9223372036854775807) hs
    refine ⟨(List.range l0).map f, some a, c0, by rw [List.length_map, List.length_range], by rw [List.length_map, List.length_range]; exact hl, by unfold maxLen at hm; exact hm, ?_, fun s hs => ?_⟩
    · by_cases h0 : l0 = 0
      · subst h0; exact Rd.nil
      · have h00 := (hf 0 (by omega)).1
        obtain ⟨hsp, hbl⟩ := cell_spot h00
        have ha : a.add 0 = a := rfl
        rw [ha] at hsp hbl
        obtain ⟨b, o, s⟩ := a
        dsimp only at hsp
        subst hsp
        refine ⟨by unfold strs; simp, fun _ => ⟨b, o, rfl, hbl, fun j hj => ?_⟩⟩
        rw [List.length_map, List.length_range, Nat.mul_one] at hj
        have := (hf j hj).1
        rw [add_eq] at this
        rw [this]
        unfold strs
        rw [List.getElem?_map, List.getElem?_map, List.getElem?_range hj]; rfl
    · obtain ⟨i, hi, rfl⟩ := List.mem_map.1 hs
      exact (hf i (List.mem_range.1 hi)).2
end
end Go.Proofs.YtcpkkaimingnlaaGreatDoor
end
