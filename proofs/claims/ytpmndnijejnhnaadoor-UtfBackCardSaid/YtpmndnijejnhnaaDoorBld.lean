/-
  A Builder of the call's own: the check ahead of each write, a code point written.
-/
import Derived.Shelf.Strings.BuilderRune
import Derived.Test.YtpmndnijejnhnaaDoorUPt
namespace Go.Proofs.YtpmndnijejnhnaaDoor
open Go.RowKit

theorem info48 : ∃ j, Tryd.prog.info? 48 = some j ∧ j.size = 2 := by
  have h : (Tryd.prog.info? 48).map (·.size) = some 2 := by kernel_rfl
  obtain ⟨j, h1, h2⟩ := Option.map_eq_some_iff.1 h
  exact ⟨j, h1, h2⟩

set_option maxHeartbeats 1000000 in
set_option maxRecDepth 100000 in
theorem check_used (b : Nat) (w : World) (h0 : w.cell? ⟨b, 0, none⟩ = some (.pointer (some ⟨b, 0, none⟩))) :
    Calls Tryd.prog 45 #[.pointer (some ⟨b, 0, none⟩)] w fun e w' => e = .returned (.tuple #[]) ∧ w' = w := by
  obtain ⟨j, hj, _⟩ := info48
  have hne := Lib.run_neq_ptr_same (P := Tryd.prog) w (⟨b, 0, none⟩ : Addr) Tryd.underlying46 hj
  go_enter Tryd.func45, Tryd.ntmps45
  go_wp2_with fail
  go_end0
  exact ⟨rfl, rfl⟩
set_option maxHeartbeats 1000000 in
set_option maxRecDepth 100000 in
theorem check_fresh (b : Nat) (w : World) (h0 : w.cell? ⟨b, 0, none⟩ = some (.pointer none)) (hsh : w.shape? b = some (48, 2)) (hfz : w.frozen? ⟨b, 0, none⟩ = false) :
    Calls Tryd.prog 45 #[.pointer (some ⟨b, 0, none⟩)] w fun e w' => e = .returned (.tuple #[]) ∧ w' = w.setCell ⟨b, 0, none⟩ (.pointer (some ⟨b, 0, none⟩)) := by
  obtain ⟨j, hj, hjs⟩ := info48
  have hto := Lib.run_to_unsafe (P := Tryd.prog) w (⟨b, 0, none⟩ : Addr) Tryd.underlying46 Tryd.underlying74 hj (by rw [hjs]; decide) hsh (Nat.zero_lt_succ 1)
  have hfrom := Lib.run_from_unsafe (P := Tryd.prog) w (⟨b, 0, none⟩ : Addr) Tryd.underlying74 Tryd.underlying46 hj hsh (by kernel_rfl)
  have hesc : (callFunc 51 #[.pointer (some ⟨b, 0, none⟩)]).run Tryd.prog w = .ok (.value (.pointer (some ⟨b, 0, none⟩))) w := by
    rw [run_callFunc_extern Tryd.func51 (by kernel_rfl) (by kernel_rfl) (by kernel_rfl) (e := Extern.AbiNoEscape.same) (by kernel_rfl)]
    rw [Lib.run_noEscape]
    rfl
  go_enter Tryd.func45, Tryd.ntmps45
  go_wp2_with fail
  go_end0
  exact ⟨rfl, rfl⟩
end Go.Proofs.YtpmndnijejnhnaaDoor
