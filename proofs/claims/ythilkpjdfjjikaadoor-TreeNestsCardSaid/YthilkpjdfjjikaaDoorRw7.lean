/-
  TreeNests answers true for every input, and leaves its arguments as they were (the tied card).
  No condition but the row's own: the four listed variables are as the library's text lays them.
-/
import Derived.SevenTiedAt
import Derived.Deep.DeepWitnessRowRef
import Derived.Carry
import Derived.Test.YthilkpjdfjjikaaDoorNamM
import Derived.Test.YthilkpjdfjjikaaDoorSmtM
import Derived.Test.YthilkpjdfjjikaaDoorTie
import Derived.Test.YthilkpjdfjjikaaDoorCards
import Derived.Test.YthilkpjdfjjikaaDoorOpn
set_option linter.unusedVariables false
set_option linter.unusedSimpArgs false
namespace Go.Proofs.YthilkpjdfjjikaaDoor
open Go.ChangeShapes Go.WideShapes Go.ChangeAt Go.RowKit
open Go.ChangeMaps (open_string shut_string)

theorem witness7 (os : Os) {H : Type} (enc : TypeId × Value → H) :
    (OpenSpec.ofChange Rows.treeNestsSpec).preRow enc Tryd.prog Tryd.f7 [] false laidL ((laidWorld os).forCall (fun _ _ => 0) ⟨#[], #[.slice Option.none 0 0, .int .i64 0], []⟩).memory #[.slice Option.none 0 0, .int .i64 0] := by
  have hw : (DataW.whole enc Tryd.prog ((laidWorld os).forCall (fun _ _ => 0) ⟨#[], #[.slice Option.none 0 0, .int .i64 0], []⟩).memory Tryd.f7.params.toList [] false [Value.slice Option.none 0 0, Value.int .i64 0] 8).isSome = true := by kernel_rfl
  obtain ⟨x, hx⟩ := Option.isSome_iff_exists.1 hw
  exact OpenSpec.preRow_of_cond 8 hx rfl (fun k hk => by cases hk) (by kernel_rfl) (laid_met os _)
set_option maxRecDepth 100000 in
theorem lifted7 (os : Os) (started : os.Started) (H : Type) (enc : TypeId × Value → H) :
    ReturnsInHanded {} Tryd.checked os 7 .any ((OpenSpec.ofChange Rows.treeNestsSpec).preRow enc Tryd.prog Tryd.f7 [] false laidL) (Rows.treeNestsSpec.post enc Tryd.prog Tryd.f7 false true false false) := by
  refine returnsInHanded_of_row (C := Tryd.checked) (s := OpenSpec.ofChange Rows.treeNestsSpec) (F := default) ownB started (by kernel_rfl) Tryd.func7
    (witness_row_atRef (enc := enc) (C := Tryd.checked) false (laidWorld os) #[.slice Option.none 0 0, .int .i64 0] rfl (by kernel_rfl) (by kernel_rfl) (by kernel_rfl) (witness7 os enc)) ?_
  intro W base args ds gs before hval0 hW _ _ hwt0 hL hsh _
  have hwt := List.all_eq_true.1 hwt0
  have hval : ∀ (j : Nat) t v, Tryd.f7.params[j]? = some t → args[j]? = some v → Value.okWide Tryd.prog W .any base t v := hval0
  have hW' := hW
  obtain ⟨p, q, hA0, hV0, rfl, hfz, hnd⟩ := hW
  have hA : DataW.TrodAll enc Tryd.prog W 0 (fun _ => true) true Tryd.f7.params.toList args.toList ds p := hA0
  rw [Tryd.params7] at hA hval hwt
  obtain ⟨v0, vs0, d0, ds0, p0, q0, hargs, rfl, rfl, h0, r0⟩ := trodAll_cons hA
  obtain ⟨v1, vs1, d1, ds1, p1, q1, rfl, rfl, rfl, h1, r1⟩ := trodAll_cons r0
  obtain ⟨rfl, rfl, rfl⟩ := trodAll_nil r1
  obtain rfl : args = #[v0, v1] := by cases args; simp_all
  have hk0 := h0
  obtain ⟨ps0, rd0, pth0, len0⟩ := open_pieces (hval 0 23 v0 rfl rfl) h0
  have hlt0 : ∀ x ∈ p0, x.block < W.heap.size := fun x hx => hW'.lt x (by simp [hx])
  have fit0 : Fits 23 d0 := fits_each (fun z hz => of_decide_eq_true (hwt z hz)) 0 23 d0 rfl rfl
  obtain ⟨n1, rfl, rfl, rfl, wn1⟩ := open_int Tryd.underlying3 (hval 1 3 v1 rfl rfl) h1
  obtain ⟨rfl, rfl⟩ := trodVars_none hV0
  clear hA0 hval0
  have hT := tabs_of hL hsh
  refine (nests_any ps0 n1 v0 W hT rd0 (pth0 fit0) (len0 fit0)).mono fun e W' ⟨he, bel⟩ => ?_
  subst he
  exact ⟨_, rfl, _, _, _, [], _, [], hW', trodAll_mk1 (shut_bool Tryd.underlying4 _), trodAll_cons_mk (Below.trod laidOutAll (by kernel_rfl) (of_decide_eq_true (by kernel_rfl)) hk0 bel hlt0) (trodAll_cons_mk (shut_int Tryd.underlying3 wn1) trodAll_mk0), rfl, bel.frame _, fun h => by cases h⟩

theorem said7 : Rows.TreeNestsSaid :=
  OpenClaim.holds_of_wide 7 Tryd.f7 rfl rfl rfl rfl rfl rfl rfl ⟨rfl, rfl, rfl, rfl, rfl⟩ rfl rfl rfl rfl rfl (by kernel_rfl) Tryd.func7 (by kernel_rfl)
    (of_decide_eq_true (by kernel_rfl)) (by unfold Func.isWrapper; rw [if_neg (of_decide_eq_false (by kernel_rfl))]; exact ⟨rfl, rfl⟩)
    (fun os started H enc _ => by rw [OpenClaim.pre_eq_preRow]; exact lifted7 os started H enc)

/-- The statement: the tied card. -/
theorem treeNests_card : Rows.TreeNestsCardSaid :=
  Claim7.holds_tied_plain_at .later [] [.data, .listed, .data, .pinned] true (true, "b85a449f94dc4c3824a2d79551a66447400fe4069bb2fc6932f1c64a9b88a3b1") true
    said7 (fun _ h => by cases h) (by kernel_rfl) (fun _ h => by cases h) treeNests_row_tie rfl ⟨rfl, rfl⟩ (by kernel_rfl) rfl
    (fun f fn hf hfn => by
      obtain rfl : f = 7 := Option.some.inj ((show Tryd.prog.funcNamed "broadsheet/broadsheetlaw18.TreeNests" = some 7 by kernel_rfl).symm.trans hf) |>.symm
      obtain rfl : fn = Tryd.f7 := (Option.some.inj (Tryd.func7.symm.trans hfn)).symm
      exact ⟨by kernel_rfl, fun j t ht => by
        rw [Tryd.params7] at ht
        rcases j with _ | _ | j
        · rw [show t = 23 from by simpa using ht.symm]; exact (show Tryd.prog.wantsStandIn 23 = false by kernel_rfl)
        · rw [show t = 3 from by simpa using ht.symm]; exact (show Tryd.prog.wantsStandIn 3 = false by kernel_rfl)
        · simp at ht⟩)
    (by kernel_rfl)
#print axioms treeNests_card
end Go.Proofs.YthilkpjdfjjikaaDoor
