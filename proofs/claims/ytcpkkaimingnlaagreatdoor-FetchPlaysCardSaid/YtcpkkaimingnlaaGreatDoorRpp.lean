/-
  The document's Print.
-/
import Derived.Test.YtcpkkaimingnlaaGreatDoorMK
import Derived.Test.YtcpkkaimingnlaaGreatDoorMB
set_option linter.unusedVariables false
set_option linter.unusedSimpArgs false
namespace Go.Proofs.YtcpkkaimingnlaaGreatDoor
open Go.RowKit

set_option maxHeartbeats 4000000 in
theorem rprint_any (l : Link) (w : World) (hl : sL l) (hp : l.path.length ≤ 1000000) (hq : l.query.length ≤ 1000000) (hf : l.frag.length ≤ 1000000) :
    Calls Tryz.prog 71 #[lnk l] w fun e w' => e = .returned (.string (bs (printL l))) ∧ Below w.heap.size w w' := by
  have hc := Lib.hid (fun W (_ : Below w.heap.size w W) => rorigin_any l W hl)
  have z1 : (bs (originL l)).size ≤ 2000012 := by
    rw [bs_size]; unfold originL portT
    have := decT_len _ hl.2.2
    have := hl.1
    have := hl.2.1
    split
    · simp only [List.length_append, List.length_cons, List.length_nil]; omega
    · simp only [List.length_append, List.length_cons, List.length_nil]; omega
  have z2 : (bs l.path).size ≤ 1000000 := by rw [bs_size]; exact hp
  have z3 : (bs l.query).size ≤ 1000000 := by rw [bs_size]; exact hq
  have z4 : (bs l.frag).size ≤ 1000000 := by rw [bs_size]; exact hf
  have eO : bs (printL l) = if l.hasF then (if l.hasQ then bs (originL l) ++ bs l.path ++ (bs [63] ++ bs l.query) else bs (originL l) ++ bs l.path) ++ (bs [35] ++ bs l.frag) else (if l.hasQ then bs (originL l) ++ bs l.path ++ (bs [63] ++ bs l.query) else bs (originL l) ++ bs l.path) := by
    unfold printL qT fT
    rw [← bs_cat, ← bs_cat, ← bs_cat]
    have e1 : ∀ c k, bs (c :: k) = bs [c] ++ bs k := fun c k => (bs_cat [c] k).symm
    have e2 : ∀ S : ByteArray, S ++ bs [] = S := by
      intro S
      apply ByteArray.ext
      rw [ByteArray.data_append]
      simp [bs]
    cases l.hasQ <;> cases l.hasF <;> simp only [if_true, if_false, Bool.false_eq_true, e2, e1 63 l.query, e1 35 l.frag]
  rw [eO]
  unfold lnk at *
  generalize bs (originL l) = SO at *
  generalize bs l.scheme = S1 at *
  generalize bs l.host = S2 at *
  generalize bs l.path = S3 at *
  generalize bs l.query = S4 at *
  generalize bs l.frag = S5 at *
  generalize l.hasQ = bq at *
  generalize l.hasF = bf at *
  clear eO hl hp hq hf
  generalize ((l.port : Nat) : Int) = y at *
  have hA := Lib.hid (fun x : Obj => below_one w x)
  have hC : ∀ (j : Nat) (v : Value) (cs : Array Value), cs[j]? = some v → (w.alloc (.cells cs 24)).cell? ⟨w.heap.size, j, none⟩ = some v := by
    intro j v cs h
    rw [cell_of_row _ w.heap.size j cs 24 (0, 0) (heap_alloc_new w _)]
    exact h
  have HC := Lib.hid hC
  clear hC
  go_enter Tryz.func71, Tryz.ntmps71
  go_wp2_with fail
  have c0 := HC.out 0 (.string S1) #[.string S1, .string S2, .int .i64 y, .string S3, .string S4, .string S5, .bool bq, .bool bf] rfl
  have c1 := HC.out 1 (.string S2) #[.string S1, .string S2, .int .i64 y, .string S3, .string S4, .string S5, .bool bq, .bool bf] rfl
  have c2 := HC.out 2 (.int .i64 y) #[.string S1, .string S2, .int .i64 y, .string S3, .string S4, .string S5, .bool bq, .bool bf] rfl
  have c3 := HC.out 3 (.string S3) #[.string S1, .string S2, .int .i64 y, .string S3, .string S4, .string S5, .bool bq, .bool bf] rfl
  have c4 := HC.out 4 (.string S4) #[.string S1, .string S2, .int .i64 y, .string S3, .string S4, .string S5, .bool bq, .bool bf] rfl
  have c5 := HC.out 5 (.string S5) #[.string S1, .string S2, .int .i64 y, .string S3, .string S4, .string S5, .bool bq, .bool bf] rfl
  have c6 := HC.out 6 (.bool bq) #[.string S1, .string S2, .int .i64 y, .string S3, .string S4, .string S5, .bool bq, .bool bf] rfl
  have c7 := HC.out 7 (.bool bf) #[.string S1, .string S2, .int .i64 y, .string S3, .string S4, .string S5, .bool bq, .bool bf] rfl
  have hb1 : Below w.heap.size w (w.alloc (.cells #[.string S1, .string S2, .int .i64 y, .string S3, .string S4, .string S5, .bool bq, .bool bf] 24)) := hA.out _
  have hs1 : (w.alloc (.cells #[.string S1, .string S2, .int .i64 y, .string S3, .string S4, .string S5, .bool bq, .bool bf] 24)).heap.size = w.heap.size + 1 := by show (w.heap.push _).size = _; rw [Array.size_push]
  clear HC hA
  generalize w.alloc (.cells #[.string S1, .string S2, .int .i64 y, .string S3, .string S4, .string S5, .bool bq, .bool bf] 24) = W1 at *
  generalize hg : w.heap.size = g at *
  have HS := Lib.hid hs1
  have HB1 := Lib.hid hb1
  clear hs1 hb1
  have zs : ¬ 9223372036854775807 < SO.size + S3.size := by omega
  have hBd : Below W1.heap.size W1 W1.drew := (Below.refl _ W1).drew
  go_region_held3 (fun w' => Below W1.heap.size W1 w' ∧ w'.cell? ⟨g, 0, none⟩ = some (.string S1) ∧ w'.cell? ⟨g, 1, none⟩ = some (.string S2) ∧ w'.cell? ⟨g, 2, none⟩ = some (.int .i64 y) ∧ w'.cell? ⟨g, 3, none⟩ = some (.string S3) ∧ w'.cell? ⟨g, 4, none⟩ = some (.string S4) ∧ w'.cell? ⟨g, 5, none⟩ = some (.string S5) ∧ w'.cell? ⟨g, 6, none⟩ = some (.bool bq) ∧ w'.cell? ⟨g, 7, none⟩ = some (.bool bf)) (go_keep) ((go_at_call 57; refine (hc.out _ ?_).mono ?_; (focus (refine HB1.out.trans (Below.mono (by assumption) ?_); (have := HS.out; omega))); rintro e w5 ⟨rfl, hb5⟩; have hbk := below_then' (by assumption) hb5; have k0 := cell_stays HS.out hbk c0; have k1 := cell_stays HS.out hbk c1; have k2 := cell_stays HS.out hbk c2; have k3 := cell_stays HS.out hbk c3; have k4 := cell_stays HS.out hbk c4; have k5 := cell_stays HS.out hbk c5; have k6 := cell_stays HS.out hbk c6; have k7 := cell_stays HS.out hbk c7; clear hb5))
  all_goals clear zs
  all_goals have hW := HB1.out.trans (hbk.mono (by have := HS.out; omega))
  all_goals clear hBd hbk
  all_goals cases bq <;> cases bf
  all_goals go_wp2_with fail
  all_goals go_ret
  all_goals exact ⟨rfl, hW⟩
end Go.Proofs.YtcpkkaimingnlaaGreatDoor
