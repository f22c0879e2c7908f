/-
  The law LinkParses, walked.
-/
import Derived.Test.YtcpkkaimingnlaaGreatDoorMG
import Derived.Test.YtcpkkaimingnlaaGreatDoorRpa
set_option linter.unusedVariables false
set_option linter.unusedSimpArgs false
namespace Go.Proofs.YtcpkkaimingnlaaGreatDoor
open Go.RowKit

theorem rparse_val (s : Bs) (w : World) (hmax : s.length ≤ 9223372036854775807) :
    Calls Tryz.prog 15 #[.string (bs s)] w fun e w' => e = .returned (.tuple #[.agg (lcs ((parseP s).getD Link.zero)).toArray, .bool (parseP s).isSome]) ∧ Below w.heap.size w w' := by
  refine (rparse_any s w hmax).mono ?_
  rintro e w' ⟨rfl, h⟩
  rw [parseR_eq]
  exact ⟨rfl, h⟩
end Go.Proofs.YtcpkkaimingnlaaGreatDoor
