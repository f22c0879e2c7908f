/-
  A slice of bytes that came in reads as a list of bytes.
-/
import Derived.Test.YtcpkkaimingnlaaGreatDoorLga
import Derived.Test.YtcpkkaimingnlaaGreatDoorMJ
import Derived.ChangeSlices
import Derived.ChangeSame
import Derived.Carry
set_option linter.unusedVariables false
set_option linter.unusedSimpArgs false
namespace Go.Proofs.YtcpkkaimingnlaaGreatDoor
open Go.ChangeShapes Go.WideShapes Go.ChangeAt Go.RowKit
open Go.ChangeMaps (open_string shut_string)

/-- WHAT THE WALK IS TOLD OF A SLICE OF INTEGERS THAT CAME IN. -/
def IsRow (k : IntKind) (w : World) (a : Option Addr) (len cap : Nat) (zs : List Int) : Prop :=
  (a = Option.none ∧ len = 0 ∧ cap = 0 ∧ zs = []) ∨
  ∃ x, a = some x ∧ len ≤ cap ∧ cap ≤ maxLen ∧ zs.length = cap ∧ (∀ i, i < zs.length → w.cell? (x.add i) = some (.int k (zs.getD i 0))) ∧ ∀ n ∈ zs, (Lit.int k n).wf = true
theorem wf_u8 {n : Int} (h : (Lit.int .u8 n).wf = true) : 0 ≤ n ∧ n < 256 := by
  simp only [Lit.wf, Bool.and_eq_true, decide_eq_true_eq] at h
  have h1 : IntKind.u8.min = 0 := rfl
  have h2 : IntKind.u8.max = 255 := rfl
  omega
/-- A slice of bytes that came in reads as a list of bytes. -/
theorem IsRow.rd {w : World} {a : Option Addr} {len cap : Nat} {zs : List Int} (h : IsRow .u8 w a len cap zs) :
    ∃ l : List UInt8, l.length = len ∧ Rd w w.heap.size 1 a len (Lib.byteCells l) ∧ len ≤ cap ∧ cap < 9223372036854775808 := by
  rcases h with ⟨rfl, rfl, rfl, rfl⟩ | ⟨x, rfl, hl, hm, hz, hc, hw⟩
  · exact ⟨[], rfl, Rd.nil, Nat.le_refl _, by decide⟩
  · refine ⟨(zs.take len).map fun n => UInt8.ofNat n.toNat, by simp; omega, ⟨by simp [Lib.byteCells]; omega, fun hn => ?_⟩, hl, by unfold maxLen at hm; omega⟩
    obtain ⟨b, off, spot⟩ := x
    have h0 := hc 0 (by omega)
    have hspot : spot = Option.none := by simpa [Addr.add] using World.cell?_spot h0
    subst hspot
    have hb : b < w.heap.size := by
      have h1 : w.cell? ⟨b, off, Option.none⟩ = some (.int .u8 (zs.getD 0 0)) := by simpa [Addr.add] using h0
      rcases Nat.lt_or_ge b w.heap.size with h' | h'
      · exact h'
      · simp [World.cell?, h'] at h1
    refine ⟨b, off, rfl, hb, fun j hj => ?_⟩
    have hj' : j < zs.length := by omega
    have h2 := hc j hj'
    rw [add_eq] at h2
    rw [h2]
    have hjl : j < len := by omega
    have hwf := wf_u8 (hw (zs.getD j 0) (by simp [hj']))
    simp only [Lib.byteCells, List.map_map]
    have hg : zs.getD j 0 = zs[j] := by simp [hj']
    rw [hg] at hwf ⊢
    simp [hjl, hj']
    omega

end Go.Proofs.YtcpkkaimingnlaaGreatDoor
