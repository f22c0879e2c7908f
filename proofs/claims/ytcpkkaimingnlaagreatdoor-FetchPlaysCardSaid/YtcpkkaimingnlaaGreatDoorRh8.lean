/-
  The document's Hear, of whatever answer and number.
-/
import Derived.Test.YtcpkkaimingnlaaGreatDoorRh3
import Derived.Test.YtcpkkaimingnlaaGreatDoorRh4
import Derived.Test.YtcpkkaimingnlaaGreatDoorRh5
import Derived.Test.YtcpkkaimingnlaaGreatDoorRh6
import Derived.Test.YtcpkkaimingnlaaGreatDoorRh7
set_option linter.unusedVariables false
set_option linter.unusedSimpArgs false
namespace Go.Proofs.YtcpkkaimingnlaaGreatDoor
open Go.RowKit

theorem rhear_one (per now : Int) (r : RSrc) (lost : Bool) (st : Int) (loc et mo lb : Bs) (Ab : Option Addr) (cb : Nat) (P : Nat → Prop) (g gr i n cap : Nat) (pre post : List Value) (w : World)
    (hi : i < n) (hcap : n ≤ cap ∧ cap ≤ 9223372036854775807) (hsrc : Blk w gr 64 (pre ++ rcs r ++ post)) (hhead : Blk w g 62 [.int .i64 per, .int .i64 now, .slice (some ⟨gr, 0, none⟩) n cap]) (hled : LedRd w P r) (hne : g ≠ gr) (hP : ∀ b, P b → b ≠ gr) (hP2 : ∀ b, w.heap.size ≤ b → P b) (hpre : pre.length = i * 8)
    (hout : r.out = true) (hok : SOk (toS r)) (hper : 1 ≤ per ∧ per ≤ 1048576) (hnow : 0 ≤ now ∧ now ≤ 1000000000) (hll : lb.length ≤ 1000000000) (hloc : loc.length ≤ 1000000) (het : et.length ≤ 1000000) (hmo : mo.length ≤ 1000000) :
    Calls Tryz.prog 33 #[ptr g, .int .i64 ((i : Nat) : Int), .agg (acs ⟨lost, st, loc, et, mo, .slice Ab lb.length cb⟩).toArray] w (RHQ per now r ⟨lost, st, loc, et, mo, .slice Ab lb.length cb⟩ lb.length P g gr (i * 8) pre post [.int .i64 per, .int .i64 now, .slice (some ⟨gr, 0, none⟩) n cap] w) := by
  cases lost with
  | true =>
    by_cases h200 : st = 200
    · subst h200
      exact rhear_lost_200 per now r true 0 loc et mo lb Ab cb P g gr i n cap pre post w hi hcap hsrc hhead hled hne hP hP2 hpre hout hok hper hnow hll hloc het hmo
    by_cases h304 : st = 304
    · subst h304
      exact rhear_lost_304 per now r true 0 loc et mo lb Ab cb P g gr i n cap pre post w hi hcap hsrc hhead hled hne hP hP2 hpre hout hok hper hnow hll hloc het hmo
    by_cases h301 : st = 301
    · subst h301
      exact rhear_lost_301 per now r true 0 loc et mo lb Ab cb P g gr i n cap pre post w hi hcap hsrc hhead hled hne hP hP2 hpre hout hok hper hnow hll hloc het hmo
    by_cases h302 : st = 302
    · subst h302
      exact rhear_lost_302 per now r true 0 loc et mo lb Ab cb P g gr i n cap pre post w hi hcap hsrc hhead hled hne hP hP2 hpre hout hok hper hnow hll hloc het hmo
    by_cases h303 : st = 303
    · subst h303
      exact rhear_lost_303 per now r true 0 loc et mo lb Ab cb P g gr i n cap pre post w hi hcap hsrc hhead hled hne hP hP2 hpre hout hok hper hnow hll hloc het hmo
    by_cases h307 : st = 307
    · subst h307
      exact rhear_lost_307 per now r true 0 loc et mo lb Ab cb P g gr i n cap pre post w hi hcap hsrc hhead hled hne hP hP2 hpre hout hok hper hnow hll hloc het hmo
    by_cases h308 : st = 308
    · subst h308
      exact rhear_lost_308 per now r true 0 loc et mo lb Ab cb P g gr i n cap pre post w hi hcap hsrc hhead hled hne hP hP2 hpre hout hok hper hnow hll hloc het hmo
    exact rhear_lost_st per now r true st loc et mo lb Ab cb P g gr i n cap pre post w hi hcap hsrc hhead hled hne hP hP2 hpre hout hok hper hnow hll hloc het hmo h200 h304 h301 h302 h303 h307 h308
  | false =>
    by_cases h200 : st = 200
    · subst h200
      by_cases hb : lb.length ≤ 65536
      · exact rhear_took per now r true 0 loc et mo lb Ab cb P g gr i n cap pre post w hi hcap hsrc hhead hled hne hP hP2 hpre hout hok hper hnow hll hloc het hmo hb
      · exact rhear_big per now r true 0 loc et mo lb Ab cb P g gr i n cap pre post w hi hcap hsrc hhead hled hne hP hP2 hpre hout hok hper hnow hll hloc het hmo (by omega)
    by_cases h304 : st = 304
    · subst h304
      by_cases hz : r.led.length = 0
      · by_cases ht : r.etag ++ r.mod = []
        · exact rhear_304b per now r true 0 loc et mo lb Ab cb P g gr i n cap pre post w hi hcap hsrc hhead hled hne hP hP2 hpre hout hok hper hnow hll hloc het hmo hz ht
        · exact rhear_same per now r true 0 loc et mo lb Ab cb P g gr i n cap pre post w hi hcap hsrc hhead hled hne hP hP2 hpre hout hok hper hnow hll hloc het hmo hz ht
      · exact rhear_304a per now r true 0 loc et mo lb Ab cb P g gr i n cap pre post w hi hcap hsrc hhead hled hne hP hP2 hpre hout hok hper hnow hll hloc het hmo (by omega)
    by_cases hm : st = 301 ∨ st = 302 ∨ st = 303 ∨ st = 307 ∨ st = 308
    · by_cases h5 : 5 ≤ r.led.length
      · rcases hm with rfl | rfl | rfl | rfl | rfl
        · exact rhear_far_301 per now r true 0 loc et mo lb Ab cb P g gr i n cap pre post w hi hcap hsrc hhead hled hne hP hP2 hpre hout hok hper hnow hll hloc het hmo h5
        · exact rhear_far_302 per now r true 0 loc et mo lb Ab cb P g gr i n cap pre post w hi hcap hsrc hhead hled hne hP hP2 hpre hout hok hper hnow hll hloc het hmo h5
        · exact rhear_far_303 per now r true 0 loc et mo lb Ab cb P g gr i n cap pre post w hi hcap hsrc hhead hled hne hP hP2 hpre hout hok hper hnow hll hloc het hmo h5
        · exact rhear_far_307 per now r true 0 loc et mo lb Ab cb P g gr i n cap pre post w hi hcap hsrc hhead hled hne hP hP2 hpre hout hok hper hnow hll hloc het hmo h5
        · exact rhear_far_308 per now r true 0 loc et mo lb Ab cb P g gr i n cap pre post w hi hcap hsrc hhead hled hne hP hP2 hpre hout hok hper hnow hll hloc het hmo h5
      · exact rhear_moved per now r true st loc et mo lb Ab cb P g gr i n cap pre post w hi hcap hsrc hhead hled hne hP hP2 hpre hout hok hper hnow hll hloc het hmo hm (by omega)
    · have h301 : st ≠ 301 := fun h => hm (.inl h)
      have h302 : st ≠ 302 := fun h => hm (.inr (.inl h))
      have h303 : st ≠ 303 := fun h => hm (.inr (.inr (.inl h)))
      have h307 : st ≠ 307 := fun h => hm (.inr (.inr (.inr (.inl h))))
      have h308 : st ≠ 308 := fun h => hm (.inr (.inr (.inr (.inr h))))
      exact rhear_oth per now r true st loc et mo lb Ab cb P g gr i n cap pre post w hi hcap hsrc hhead hled hne hP hP2 hpre hout hok hper hnow hll hloc het hmo h200 h304 h301 h302 h303 h307 h308
section
variable {w : World} {P : Nat → Prop} {lo hi g : Nat} {A : Option Addr} {cap : Nat} {per now : Int} {rs : List RSrc}
set_option maxHeartbeats 4000000 in
set_option maxRecDepth 100000 in
theorem rhear_idle (h : RPol w P lo hi g A cap per now rs) (i : Int) (hi' : i < 0 ∨ (rs.length : Int) ≤ i ∨ (0 ≤ i ∧ i < (rs.length : Int) ∧ (rs.getD i.toNat default).out = false)) (a : Ans) :
    Calls Tryz.prog 33 #[ptr g, .int .i64 i, .agg (acs a).toArray] w fun e w' => e = .returned (.tuple #[.bool false, .int .i64 60]) ∧ Below w.heap.size w w' := by
  have HB := Lib.hid (below_one w (.cells (acs a).toArray 48))
  have g2 := (blk_cell (blk_alloc h.head (.cells (acs a).toArray 48)) 2).trans (show _ = some (.slice A rs.length cap) from rfl)
  have hcap := h.hcap
  by_cases h0 : i < 0
  · have t0 : decide (i < 0) = true := decide_eq_true h0
    clear h hi' h0
    generalize rs.length = n at *
    unfold ptr
    go_enter Tryz.func33, Tryz.ntmps33
    go_wp2_with fail
    go_ret2
    exact ⟨rfl, HB.out⟩
  · have t0 : decide (i < 0) = false := decide_eq_false h0
    by_cases h1 : (rs.length : Int) ≤ i
    · have t1 : decide (i ≥ (rs.length : Int)) = true := decide_eq_true h1
      have t2 : decide ((rs.length : Int) ≤ i) = true := decide_eq_true h1
      clear h hi' h0 h1
      generalize rs.length = n at *
      unfold ptr
      go_enter Tryz.func33, Tryz.ntmps33
      go_wp2_with fail
      go_ret2
      exact ⟨rfl, HB.out⟩
    · obtain ⟨k, rfl⟩ : ∃ k : Nat, i = (k : Int) := ⟨i.toNat, by omega⟩
      have hk : k < rs.length := by omega
      have ho : (rs.getD k default).out = false := by
        rcases hi' with h | h | h
        · exact absurd h h0
        · exact absurd h h1
        · exact h.2.2
      have t1 : decide ((k : Int) ≥ (rs.length : Int)) = false := decide_eq_false h1
      have t2 : decide ((rs.length : Int) ≤ (k : Int)) = false := decide_eq_false h1
      have t3 : decide (rs.length ≤ k) = false := decide_eq_false (by omega)
      obtain ⟨gr, pre, post, hA, hpre, _, _, _, hblk, _, _⟩ := h.view k hk
      have s7 := src_cell (blk_alloc hblk (.cells (acs a).toArray 48)) hpre 7 (.bool false) (by rw [← ho]; rfl)
      subst hA
      clear h hi' h0 h1 hblk ho
      generalize rs.length = n at *
      unfold ptr
      go_enter Tryz.func33, Tryz.ntmps33
      go_wp2_with fail
      go_ret2
      exact ⟨rfl, HB.out⟩
theorem rhear_all (h : RPol w P lo hi g A cap per now rs) (i : Int) (a : Ans) (lb : Bs) (Ab : Option Addr) (cb : Nat) (hbd : a.body = .slice Ab lb.length cb) (hll : lb.length ≤ 1000000000) (hok : ∀ r ∈ rs, SOk (toS r))
    (hper : 1 ≤ per ∧ per ≤ 1048576) (hnow : 0 ≤ now ∧ now ≤ 1000000000) (hloc : a.loc.length ≤ 1000000) (het : a.etag.length ≤ 1000000) (hmo : a.mod.length ≤ 1000000) :
    Calls Tryz.prog 33 #[ptr g, .int .i64 i, .agg (acs a).toArray] w fun e w' =>
      ∃ rs', e = .returned (.tuple #[.bool (hearL per now (rs.map toS) i a lb.length).2.1, .int .i64 (hearL per now (rs.map toS) i a lb.length).2.2]) ∧ rs'.map toS = (hearL per now (rs.map toS) i a lb.length).1 ∧
        RPol w' (fun b => P b ∨ w.heap.size ≤ b) lo hi g A cap per now rs' ∧ Only lo hi w w' := by
  have hB := h.hB
  have hP3 : ∀ b, (P b ∨ w.heap.size ≤ b) → hi ≤ b := fun b hb => hb.elim (h.hP b) (fun h => Nat.le_trans hB h)
  by_cases hin : 0 ≤ i ∧ i < (rs.length : Int) ∧ (rs.getD i.toNat default).out = true
  · obtain ⟨k, rfl⟩ : ∃ k : Nat, i = (k : Int) := ⟨i.toNat, by omega⟩
    have hk : k < rs.length := by omega
    obtain ⟨gr, pre, post, hA, hpre, hgg, hlg, hgh, hblk, hled, hback⟩ := h.view k hk
    have ho : (rs.getD k default).out = true := hin.2.2
    have hmem : rs.getD k default ∈ rs := by simp [hk]
    have hgD : (rs.map toS).getD k default = toS (rs.getD k default) := by simp [hk]
    have e : hearL per now (rs.map toS) (k : Int) a lb.length = ((rs.map toS).set k (hearA per now (toS (rs.getD k default)) a lb.length).1, (hearA per now (toS (rs.getD k default)) a lb.length).2, 0) := by
      unfold hearL
      rw [Int.toNat_natCast, hgD, if_pos ⟨by omega, by simpa using hk, ho⟩]
    rw [e]
    subst hA
    obtain ⟨lost, st, loc, et, mo, body⟩ := a
    simp only at hbd hloc het hmo
    subst hbd
    have hgw : gr < w.heap.size := Nat.lt_of_lt_of_le hgh hB
    have hh := rhear_one per now (rs.getD k default) lost st loc et mo lb Ab cb (fun b => P b ∨ w.heap.size ≤ b) g gr k rs.length cap pre post w hk h.hcap hblk h.head (hled.more (fun b _ hb => .inl hb)) hgg.symm
      (fun b hb => hb.elim (fun hb => by have := h.hP b hb; omega) (fun hb => by omega)) (fun b hb => .inr hb) hpre ho (hok _ hmem) hper hnow hll hloc het hmo
    refine hh.mono ?_
    rintro e' w' ⟨A', c', he, hs⟩
    have hts := toS_hearA per now (rs.getD k default) ⟨lost, st, loc, et, mo, .slice Ab lb.length cb⟩ lb.length A' c'
    obtain ⟨hts1, hts2⟩ := Prod.ext_iff.1 hts
    refine ⟨rs.set k (rhearA per now (rs.getD k default) ⟨lost, st, loc, et, mo, .slice Ab lb.length cb⟩ lb.length A' c').1, ?_, ?_, hback w' _ _ hs.src hs.only hs.led (fun b _ hb => .inl hb) hP3, hs.only.more hlg (by omega)⟩
    · rw [he]
      dsimp only at hts2
      rw [hts2]
    · dsimp only at hts1
      rw [List.map_set, hts1]
  · have e : hearL per now (rs.map toS) i a lb.length = (rs.map toS, false, 60) := by
      unfold hearL
      rw [if_neg]
      rintro ⟨h1, h2, h3⟩
      rw [List.length_map] at h2
      refine hin ⟨h1, h2, ?_⟩
      have hk : i.toNat < rs.length := by omega
      have hgD : (rs.map toS).getD i.toNat default = toS (rs.getD i.toNat default) := by simp [hk]
      rw [hgD] at h3
      exact h3
    rw [e]
    have hi' : i < 0 ∨ (rs.length : Int) ≤ i ∨ (0 ≤ i ∧ i < (rs.length : Int) ∧ (rs.getD i.toNat default).out = false) := by
      by_cases h0 : i < 0
      · exact .inl h0
      · by_cases h1 : (rs.length : Int) ≤ i
        · exact .inr (.inl h1)
        · refine .inr (.inr ⟨by omega, by omega, ?_⟩)
          cases ho : (rs.getD i.toNat default).out with
          | false => rfl
          | true => exact absurd ⟨by omega, by omega, ho⟩ hin
    refine (rhear_idle h i hi' a).mono ?_
    rintro e' w' ⟨he, hb⟩
    exact ⟨rs, he, rfl, (h.call hb).more (fun b _ hb => .inl hb) hP3, Only.of_below hb _ _⟩
end
end Go.Proofs.YtcpkkaimingnlaaGreatDoor
