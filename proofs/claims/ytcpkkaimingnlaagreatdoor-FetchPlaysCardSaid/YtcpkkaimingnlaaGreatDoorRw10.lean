/-
  FetchPlays answers true for every input, and leaves its arguments as they were (the tied card).
  No condition but the row's own: the listed variables are as the library's text lays them.
-/
import Derived.Test.YtcpkkaimingnlaaGreatDoorMJ
import Derived.Test.YtcpkkaimingnlaaGreatDoorFpl
import Derived.Test.YtcpkkaimingnlaaGreatDoorFE
import Derived.Test.YtcpkkaimingnlaaGreatDoorTie
import Derived.Test.YtcpkkaimingnlaaGreatDoorCards
import Derived.SevenTiedAt
import Derived.Deep.DeepWitnessRowRef
import Derived.Carry
set_option linter.unusedVariables false
set_option linter.unusedSimpArgs false
namespace Go.Proofs.YtcpkkaimingnlaaGreatDoor
open Go.ChangeShapes Go.WideShapes Go.ChangeAt Go.RowKit
open Go.ChangeMaps (open_string shut_string)

theorem witness10 (os : Os) {H : Type} (enc : TypeId × Value → H) :
    (OpenSpec.ofChange Rows.fetchPlaysSpec).preRow enc Tryz.prog Tryz.f10 [] false laidL ((laidWorld os).forCall (fun _ _ => 0) ⟨#[], #[.int .i64 0, .slice Option.none 0 0, .slice Option.none 0 0], []⟩).memory #[.int .i64 0, .slice Option.none 0 0, .slice Option.none 0 0] := by
  have hw : (DataW.whole enc Tryz.prog ((laidWorld os).forCall (fun _ _ => 0) ⟨#[], #[.int .i64 0, .slice Option.none 0 0, .slice Option.none 0 0], []⟩).memory Tryz.f10.params.toList [] false [Value.int .i64 0, Value.slice Option.none 0 0, Value.slice Option.none 0 0] 8).isSome = true := by kernel_rfl
  obtain ⟨x, hx⟩ := Option.isSome_iff_exists.1 hw
  exact OpenSpec.preRow_of_cond 8 hx rfl (fun k hk => by cases hk) (by kernel_rfl) (laid_met os _)
set_option maxRecDepth 100000 in
theorem lifted10 (os : Os) (started : os.Started) (H : Type) (enc : TypeId × Value → H) :
    ReturnsInHanded {} Tryz.checked os 10 .any ((OpenSpec.ofChange Rows.fetchPlaysSpec).preRow enc Tryz.prog Tryz.f10 [] false laidL) (Rows.fetchPlaysSpec.post enc Tryz.prog Tryz.f10 false true false false) := by
  refine returnsInHanded_of_row (C := Tryz.checked) (s := OpenSpec.ofChange Rows.fetchPlaysSpec) (F := default) ownB started (by kernel_rfl) Tryz.func10
    (witness_row_atRef (enc := enc) (C := Tryz.checked) false (laidWorld os) #[.int .i64 0, .slice Option.none 0 0, .slice Option.none 0 0] rfl (by kernel_rfl) (by kernel_rfl) (by kernel_rfl) (witness10 os enc)) ?_
  intro W base args ds gs before hval0 hW _ _ hwt0 hL hsh _
  have hwt := List.all_eq_true.1 hwt0
  have hval : ∀ (j : Nat) t v, Tryz.f10.params[j]? = some t → args[j]? = some v → Value.okWide Tryz.prog W .any base t v := hval0
  have hW' := hW
  obtain ⟨p, q, hA0, hV0, rfl, hfz, hnd⟩ := hW
  have hA : DataW.TrodAll enc Tryz.prog W 0 (fun _ => true) true Tryz.f10.params.toList args.toList ds p := hA0
  rw [Tryz.params10] at hA hval hwt
  obtain ⟨v0, vs0, d0, ds0, p0, q0, hargs, rfl, rfl, h0, r0⟩ := trodAll_cons hA
  obtain ⟨v1, vs1, d1, ds1, p1, q1, rfl, rfl, rfl, h1, r1⟩ := trodAll_cons r0
  obtain ⟨v2, vs2, d2, ds2, p2, q2, rfl, rfl, rfl, h2, r2⟩ := trodAll_cons r1
  obtain ⟨rfl, rfl, rfl⟩ := trodAll_nil r2
  obtain rfl : args = #[v0, v1, v2] := by cases args; simp_all
  obtain ⟨n0, rfl, rfl, rfl, wn0⟩ := open_int Tryz.underlying3 (hval 0 3 v0 rfl rfl) h0
  have k1 := h1
  have k2 := h2
  have lt1 : ∀ x ∈ p1, x.block < W.heap.size := by obtain ⟨m, hm⟩ := k1; exact DataW.trod_lt m _ _ _ hm
  have lt2 : ∀ x ∈ p2, x.block < W.heap.size := by obtain ⟨m, hm⟩ := k2; exact DataW.trod_lt m _ _ _ hm
  obtain ⟨ls1, a1, cap1, rfl, hc1, hm1, rd1, hs1⟩ := open_links (hval 1 38 v1 rfl rfl) h1
  obtain ⟨os2, a2, cap2, rfl, hc2, hm2, rd2⟩ := open_ops (hval 2 39 v2 rfl rfl) h2
  obtain ⟨rfl, rfl⟩ := trodVars_none hV0
  clear hA0 hval0
  have hT := tabs_of hL hsh
  refine (plays_any n0 ls1 a1 cap1 os2 a2 cap2 W hT ⟨hc1, hm1⟩ rd1 ⟨hc2, hm2⟩ rd2 hs1).mono fun e W' ⟨he, bel⟩ => ?_
  subst he
  exact ⟨_, rfl, _, _, _, [], _, [], hW', trodAll_mk1 (shut_bool Tryz.underlying4 _), trodAll_cons_mk (shut_int Tryz.underlying3 wn0) (trodAll_cons_mk (Below.trod laidOutAll (by kernel_rfl) (of_decide_eq_true (by kernel_rfl)) k1 bel lt1) (trodAll_cons_mk (Below.trod laidOutAll (by kernel_rfl) (of_decide_eq_true (by kernel_rfl)) k2 bel lt2) trodAll_mk0)), rfl, bel.frame _, fun h => by cases h⟩

theorem said10 : Rows.FetchPlaysSaid :=
  OpenClaim.holds_of_wide 10 Tryz.f10 rfl rfl rfl rfl rfl rfl rfl ⟨rfl, rfl, rfl, rfl, rfl⟩ rfl rfl rfl rfl rfl (by kernel_rfl) Tryz.func10 (by kernel_rfl)
    (of_decide_eq_true (by kernel_rfl)) (by unfold Func.isWrapper; rw [if_neg (of_decide_eq_false (by kernel_rfl))]; exact ⟨rfl, rfl⟩)
    (fun os started H enc _ => by rw [OpenClaim.pre_eq_preRow]; exact lifted10 os started H enc)

/-- The statement: the tied card. -/
theorem fetchPlays_card : Rows.FetchPlaysCardSaid :=
  Claim7.holds_tied_plain_at .later [] [.data, .data, .data, .data, .sentinel, .sentinel, .pinned, .pinned] true (true, "1d91c0d8c5f21ca4e322c50cf054fed48624e880a6969d18f3129de95241f25a") true
    said10 (fun _ h => by cases h) (by kernel_rfl) (fun _ h => by cases h) fetchPlays_row_tie rfl ⟨rfl, rfl⟩ (by kernel_rfl) rfl
    (fun f fn hf hfn => by
      obtain rfl : f = 10 := Option.some.inj ((show Tryz.prog.funcNamed "broadsheet/broadsheetlaw14.FetchPlays" = some 10 by kernel_rfl).symm.trans hf) |>.symm
      obtain rfl : fn = Tryz.f10 := (Option.some.inj (Tryz.func10.symm.trans hfn)).symm
      exact ⟨by kernel_rfl, fun j t ht => by
        rw [Tryz.params10] at ht
        rcases j with _ | _ | _ | j
        · rw [show t = 3 from by simpa using ht.symm]; exact (show Tryz.prog.wantsStandIn 3 = false by kernel_rfl)
        · rw [show t = 38 from by simpa using ht.symm]; exact (show Tryz.prog.wantsStandIn 38 = false by kernel_rfl)
        · rw [show t = 39 from by simpa using ht.symm]; exact (show Tryz.prog.wantsStandIn 39 = false by kernel_rfl)
        · simp at ht⟩)
    (by kernel_rfl)
#print axioms fetchPlays_card
end Go.Proofs.YtcpkkaimingnlaaGreatDoor
