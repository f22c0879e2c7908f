/-
  strings.IndexAny of any text for two or more ASCII bytes; link.absolute.
-/
import Derived.Test.YtcpkkaimingnlaaGreatDoorLis
namespace Go.Proofs.YtcpkkaimingnlaaGreatDoor
open Go.RowKit

theorem ixany_any (l cs : Bs) (hcs : ∀ x ∈ cs, x.toNat < 128) (h2 : 2 ≤ cs.length) (h9 : cs.length ≤ 100) (hl : l.length ≤ 4000000) (w : World) :
    Calls Tryz.prog 40 #[.string (bs l), .string (bs cs)] w fun e w' => e = .returned (.int .i64 (Lib.indexAny l cs)) ∧ Below w.heap.size w w' := by
  rcases Nat.lt_or_ge 8 l.length with h8 | h8
  · have h116 : (Tryz.prog.info? 111).map (fun i => (i.zero, i.size)) = some (some (.agg (Array.replicate 256 (.bool false))), 256) := by kernel_rfl
    have e1 : (bs l).data.toList = l := by simp [bs]
    have e2 : (bs cs).data.toList = cs := by simp [bs]
    have hz1 := bs_size l
    have hz2 := bs_size cs
    have := Tryz.strings_IndexAny_long (zero_of_info h116).1 (bs l) (bs cs) w (by omega) (by omega) (by omega) (by omega) (by
      intro j b hb
      rw [e2] at hb
      exact hcs b (List.mem_of_getElem? hb))
    rw [e1, e2] at this
    refine this.mono ?_
    rintro e w' ⟨he, hw⟩
    refine ⟨he, ?_⟩
    rw [hw]
    exact ((Below.refl _ _).alloc (Nat.le_refl _) _).alloc (by simp) _
  · exact ixany_short l cs hcs h2 h8 w
end Go.Proofs.YtcpkkaimingnlaaGreatDoor
