/-
  TreeDeep answers true for every input, and leaves its arguments as they were (the tied card).
  No condition but the row's own: the four listed variables are as the library's text lays them.
-/
import Derived.Test.YthilkpjdfjjikaaDoorNamM
import Derived.Test.YthilkpjdfjjikaaDoorTde
import Derived.Test.YthilkpjdfjjikaaDoorTie
import Derived.Test.YthilkpjdfjjikaaDoorCards
import Derived.SevenTiedAt
import Derived.Deep.DeepWitnessRowRef
import Derived.Carry
set_option linter.unusedVariables false
set_option linter.unusedSimpArgs false
namespace Go.Proofs.YthilkpjdfjjikaaDoor
open Go.ChangeShapes Go.WideShapes Go.ChangeAt Go.RowKit
open Go.ChangeMaps (open_string shut_string)

theorem witness8 (os : Os) {H : Type} (enc : TypeId × Value → H) :
    (OpenSpec.ofChange Rows.treeDeepSpec).preRow enc Tryd.prog Tryd.f8 [] false laidL ((laidWorld os).forCall (fun _ _ => 0) ⟨#[], #[.int .u8 0, .int .u32 0], []⟩).memory #[.int .u8 0, .int .u32 0] := by
  have hw : (DataW.whole enc Tryd.prog ((laidWorld os).forCall (fun _ _ => 0) ⟨#[], #[.int .u8 0, .int .u32 0], []⟩).memory Tryd.f8.params.toList [] false [Value.int .u8 0, Value.int .u32 0] 8).isSome = true := by kernel_rfl
  obtain ⟨x, hx⟩ := Option.isSome_iff_exists.1 hw
  exact OpenSpec.preRow_of_cond 8 hx rfl (fun k hk => by cases hk) (by kernel_rfl) (laid_met os _)
set_option maxRecDepth 100000 in
theorem lifted8 (os : Os) (started : os.Started) (H : Type) (enc : TypeId × Value → H) :
    ReturnsInHanded {} Tryd.checked os 8 .any ((OpenSpec.ofChange Rows.treeDeepSpec).preRow enc Tryd.prog Tryd.f8 [] false laidL) (Rows.treeDeepSpec.post enc Tryd.prog Tryd.f8 false true false false) := by
  refine returnsInHanded_of_row (C := Tryd.checked) (s := OpenSpec.ofChange Rows.treeDeepSpec) (F := default) ownB started (by kernel_rfl) Tryd.func8
    (witness_row_atRef (enc := enc) (C := Tryd.checked) false (laidWorld os) #[.int .u8 0, .int .u32 0] rfl (by kernel_rfl) (by kernel_rfl) (by kernel_rfl) (witness8 os enc)) ?_
  intro W base args ds gs before hval0 hW _ _ hwt0 hL hsh _
  have hwt := List.all_eq_true.1 hwt0
  have hval : ∀ (j : Nat) t v, Tryd.f8.params[j]? = some t → args[j]? = some v → Value.okWide Tryd.prog W .any base t v := hval0
  have hW' := hW
  obtain ⟨p, q, hA0, hV0, rfl, hfz, hnd⟩ := hW
  have hA : DataW.TrodAll enc Tryd.prog W 0 (fun _ => true) true Tryd.f8.params.toList args.toList ds p := hA0
  rw [Tryd.params8] at hA hval hwt
  obtain ⟨v0, vs0, d0, ds0, p0, q0, hargs, rfl, rfl, h0, r0⟩ := trodAll_cons hA
  obtain ⟨v1, vs1, d1, ds1, p1, q1, rfl, rfl, rfl, h1, r1⟩ := trodAll_cons r0
  obtain ⟨rfl, rfl, rfl⟩ := trodAll_nil r1
  obtain rfl : args = #[v0, v1] := by cases args; simp_all
  obtain ⟨n0, rfl, rfl, rfl, wn0⟩ := open_int Tryd.underlying5 (hval 0 5 v0 rfl rfl) h0
  obtain ⟨n1, rfl, rfl, rfl, wn1⟩ := open_int Tryd.underlying47 (hval 1 47 v1 rfl rfl) h1
  obtain ⟨rfl, rfl⟩ := trodVars_none hV0
  clear hA0 hval0
  have hT := tabs_of hL hsh
  refine (deep_any n0 n1 (wf_u8 wn0).1 (wf_u8 wn0).2 (wf_u32 wn1).1 (wf_u32 wn1).2 W hT).mono fun e W' ⟨he, bel⟩ => ?_
  subst he
  exact ⟨_, rfl, _, _, _, [], _, [], hW', trodAll_mk1 (shut_bool Tryd.underlying4 _), trodAll_cons_mk (shut_int Tryd.underlying5 wn0) (trodAll_cons_mk (shut_int Tryd.underlying47 wn1) trodAll_mk0), rfl, bel.frame _, fun h => by cases h⟩

theorem said8 : Rows.TreeDeepSaid :=
  OpenClaim.holds_of_wide 8 Tryd.f8 rfl rfl rfl rfl rfl rfl rfl ⟨rfl, rfl, rfl, rfl, rfl⟩ rfl rfl rfl rfl rfl (by kernel_rfl) Tryd.func8 (by kernel_rfl)
    (of_decide_eq_true (by kernel_rfl)) (by unfold Func.isWrapper; rw [if_neg (of_decide_eq_false (by kernel_rfl))]; exact ⟨rfl, rfl⟩)
    (fun os started H enc _ => by rw [OpenClaim.pre_eq_preRow]; exact lifted8 os started H enc)

/-- The statement: the tied card. -/
theorem treeDeep_card : Rows.TreeDeepCardSaid :=
  Claim7.holds_tied_plain_at .later [] [.data, .listed, .data, .pinned] true (true, "b85a449f94dc4c3824a2d79551a66447400fe4069bb2fc6932f1c64a9b88a3b1") true
    said8 (fun _ h => by cases h) (by kernel_rfl) (fun _ h => by cases h) treeDeep_row_tie rfl ⟨rfl, rfl⟩ (by kernel_rfl) rfl
    (fun f fn hf hfn => by
      obtain rfl : f = 8 := Option.some.inj ((show Tryd.prog.funcNamed "broadsheet/broadsheetlaw18.TreeDeep" = some 8 by kernel_rfl).symm.trans hf) |>.symm
      obtain rfl : fn = Tryd.f8 := (Option.some.inj (Tryd.func8.symm.trans hfn)).symm
      exact ⟨by kernel_rfl, fun j t ht => by
        rw [Tryd.params8] at ht
        rcases j with _ | _ | j
        · rw [show t = 5 from by simpa using ht.symm]; exact (show Tryd.prog.wantsStandIn 5 = false by kernel_rfl)
        · rw [show t = 47 from by simpa using ht.symm]; exact (show Tryd.prog.wantsStandIn 47 = false by kernel_rfl)
        · simp at ht⟩)
    (by kernel_rfl)
#print axioms treeDeep_card
end Go.Proofs.YthilkpjdfjjikaaDoor
