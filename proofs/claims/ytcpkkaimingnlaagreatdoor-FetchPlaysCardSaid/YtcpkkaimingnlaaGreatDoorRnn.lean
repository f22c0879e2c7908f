/-
  The document's New of pollers.
-/
import Derived.Test.YtcpkkaimingnlaaGreatDoorFB
import Derived.Test.YtcpkkaimingnlaaGreatDoorRps
set_option linter.unusedVariables false
set_option linter.unusedSimpArgs false
namespace Go.Proofs.YtcpkkaimingnlaaGreatDoor
open Go.RowKit

def newR (s : Bs) : RSrc := ⟨s, none, 0, [], false, 0, 0, [], [], false⟩
theorem infoR : (Tryz.prog.info? 64).map (fun i => (i.zero, i.size, i.bytes)) = some (some (.agg #[.string ⟨#[]⟩, .slice none 0 0, .bool false, .int .i64 0, .int .i64 0, .string ⟨#[]⟩, .string ⟨#[]⟩, .bool false]), 8, 104) := by kernel_rfl
theorem info60 : (Tryz.prog.info? 60).map (·.size) = some 1 := by kernel_rfl
/-- What New's walk knows of memory. -/
structure RNW (w W : World) (g : Nat) (A : Option Addr) (cap j : Nat) (per : Int) (rs : List RSrc) : Prop where
  head : Blk W g 62 [.int .i64 per, .int .i64 0, .slice A j cap]
  row : W.ownsRow w.heap.size 64 8 (.slice A j cap) j (rs.flatMap rcs)
  len : j = rs.length
  glo : w.heap.size ≤ g
  led : ∀ r ∈ rs, r.led = [] ∧ r.ledC = 0
  bel : Below w.heap.size w W
section
variable {w W W1 : World} {g : Nat} {A : Option Addr} {cap j : Nat} {per : Int} {rs : List RSrc}
theorem RNW.start (w : World) (per : Int) : RNW w (w.alloc (.cells #[.int .i64 per, .int .i64 0, .slice none 0 0] 62)) w.heap.size none 0 0 per [] :=
  ⟨blk_new w 62 _, World.ownsRow_nil _ _ _ _, rfl, Nat.le_refl _, fun x hx => (by simp at hx), below_one w _⟩
theorem RNW.apart (h : RNW w W g A cap j per rs) {gr : Nat} (hA : A = some ⟨gr, 0, none⟩) : gr ≠ g := by
  obtain ⟨cur, hc⟩ := own_block h.row (g := gr) (by subst hA; rfl)
  rintro rfl
  have := h.head
  unfold Blk at this
  rw [hc] at this
  injection this with this
  injection this with _ this _
  exact absurd this (by decide)
theorem RNW.head3 (h : RNW w W g A cap j per rs) (r : RSrc) {W3 : World} (hgr : (W.alloc (.cells (rcs r).toArray 64)).grownBy W3 (Value.slice A j cap).ownBlock) : Blk W3 g 62 [.int .i64 per, .int .i64 0, .slice A j cap] := by
  refine blk_grown (blk_alloc h.head _) hgr (fun g1 hg1 => ?_)
  obtain ⟨cur, hc⟩ := own_block (h.row.alloc _) hg1
  exact ⟨cur, 64, (0, 0), hc, by decide⟩
theorem RNW.push (h : RNW w W g A cap j per rs) (r : RSrc) (hr : r.led = [] ∧ r.ledC = 0) {W3 W4 : World} {g' cap' : Nat} (hh : Blk W3 g 62 [.int .i64 per, .int .i64 0, .slice A j cap])
    (hown : W3.ownsRow w.heap.size 64 8 (.slice (some ⟨g', 0, none⟩) (j + 1) cap') (j + 1) (rs.flatMap rcs ++ rcs r)) (hbel : Below w.heap.size W W3)
    (hb4 : Blk W4 g 62 [.int .i64 per, .int .i64 0, .slice (some ⟨g', 0, none⟩) (j + 1) cap']) (ht4 : Turned W3 W4 g) : RNW w W4 g (some ⟨g', 0, none⟩) cap' (j + 1) per (rs ++ [r]) := by
  have hne' : g' ≠ g := by
    obtain ⟨cur, hc⟩ := own_block hown (g := g') rfl
    rintro rfl
    unfold Blk at hh
    rw [hc] at hh
    injection hh with hh
    injection hh with _ hh _
    exact absurd hh (by decide)
  refine ⟨hb4, ?_, by simp [h.len], h.glo, fun x hx => ?_, ht4.below _ _ h.glo (h.bel.trans hbel)⟩
  · rw [List.flatMap_append]
    have := own_turned hown ht4 (fun k hk => by injection hk with hk; rw [← hk]; exact hne')
    simpa using this
  · rcases List.mem_append.1 hx with hx | hx
    · exact h.led x hx
    · rw [List.mem_singleton.1 hx]; exact hr
theorem RNW.pol (h : RNW w W g A cap j per rs) (P : Nat → Prop) (hP : ∀ b, P b → W.heap.size ≤ b) : RPol W P w.heap.size W.heap.size g A cap per 0 rs := by
  have hl := h.len
  subst hl
  refine ⟨h.head, ?_, fun r hr => LedRd.nil (h.led r hr).1 (by rw [(h.led r hr).2]; decide), ⟨h.glo, blk_lt h.head⟩, Nat.le_refl _, hP, ?_⟩
  · rcases h.row.2 with ⟨_, h0⟩ | ⟨gr, cp, cur, e, h1, h2, _, _, _, h3⟩
    · exact .inl (List.length_eq_zero_iff.1 h0)
    · injection e with e _ _
      refine .inr ⟨gr, cur.toList.drop (rs.length * 8), e, h.apart e, h1, (Array.getElem?_eq_some_iff.1 h2).1, ?_⟩
      rw [← h3, List.take_append_drop]
      unfold Blk
      rw [Array.toArray_toList]; exact h2
  · rcases h.row.2 with ⟨e, h0⟩ | ⟨gr, cp, cur, e, h1, h2, hc, hm, _⟩
    · injection e with _ _ e; omega
    · injection e with _ _ e; unfold maxLen at hm; omega
end
set_option maxHeartbeats 16000000 in
set_option maxRecDepth 100000 in
theorem rnew_any (per : Int) (links : List Bs) (A : Option Addr) (cl : Nat) (w : World) (hcl : links.length ≤ cl ∧ cl ≤ 9223372036854775807) (hn32 : links.length ≤ 1000)
    (hr : Rd w w.heap.size 1 A links.length (strs links)) :
    Calls Tryz.prog 28 #[.int .i64 per, .slice A links.length cl] w fun e w' => (∃ g A cap, e = .returned (ptr g) ∧ RNW w w' g A cap links.length per (links.map newR)) ∧ Below w.heap.size w w' := by
  have HRd := Lib.hid hr
  have HM := Lib.hid (fun (j : Nat) (h : j < links.length) => map_step newR h)
  have HX := Lib.hid (fun (j : Nat) (h : j < links.length) => (show (strs links)[j]? = some (.string (bs (links.getD j []))) by unfold strs; simp [h]))
  have HE := Lib.hid (show (links.take links.length).map newR = links.map newR by rw [List.take_length])
  clear hr
  obtain ⟨XS, hXS⟩ : ∃ XS, XS = strs links := ⟨_, rfl⟩
  rw [← hXS] at HRd HX
  clear hXS
  obtain ⟨n, hn⟩ : ∃ n, n = links.length := ⟨_, rfl⟩
  rw [← hn] at hn32 HRd HM HX HE hcl ⊢
  clear hn
  go_enter Tryz.func28, Tryz.ntmps28
  go_upto_region 2 with fail
  have H0 := Lib.hid (RNW.start w per)
  go_upto_block 1 with fail
  go_loopw [13] (fun i wr => ∃ (j : Nat) (A' : Option Addr) (cap' : Nat), i = .int .i64 (j : Int) ∧ j ≤ n ∧ Hid (RNW w wr w.heap.size A' cap' j per ((links.take j).map newR))) (fun i _ => n - (intOf i).toNat)
  case atStart => exact ⟨0, none, 0, rfl, Nat.zero_le _, H0⟩
  case round =>
    obtain ⟨j, A', cap', rfl, hj, H⟩ := hrel
    clear H0
    by_cases hjn : j < n
    · have tj : decide ((j : Int) < (n : Int)) = true := by rw [decide_eq_true_eq]; omega
      obtain ⟨b, off, hA, _, hc⟩ := (HRd.out.keep H.out.bel).at_ (by omega)
      subst hA
      have hcj := (hc j (by omega)).trans (HX.out j hjn)
      have HM1 := Lib.hid (HM.out j hjn)
      clear hc
      generalize links.getD j [] = s at *
      have k2 := (blk_cell H.out.head 2).trans (show _ = some (.slice A' j cap') from rfl)
      have hbs := H.out.bel.size
      have hR8 : (rcs (newR s)).length = 8 := rfl
      go_wp2_with (first | ((with_reducible refine atD 23 ?_); refine wpList_val rfl (.agg (rcs (newR s)).toArray) (by go_simp; rfl) ?_) | (at_builtin; change wpList _ _ _ _ _ (wr.alloc (.cells (rcs (newR s)).toArray 64)); refine wpList_pushG rfl (.tmp 21) (.tmp 24) 60 rfl w.heap.size 64 _ 8 104 Tryz.underlying60 infoR rfl (by decide) (.slice A' j cap') j _ (by rfl) H.out.row (rcs (newR s)).toArray 1 (by decide) (by first | rfl | (show Value.slice _ _ _ = _; simp)) rfl rfl (by omega) (by omega) hbs ?_; intro g3 cap3 W3 hown3 hg3 hb3 hgr3; have HH := Lib.hid (H.out.head3 (newR s) hgr3); have HO3 := Lib.hid hown3; have HB3 := Lib.hid hb3; clear hown3 hg3 hb3 hgr3) | ((with_reducible refine atS 27 25 ?_); refine wpList_storeC rfl 60 (.tmp 27) (.tmp 25) rfl w.heap.size 2 (.slice (some ⟨g3, 0, none⟩) (j + 1) cap3) (by rfl) (by rfl) rfl info60 62 _ HH.out (by exact Nat.le_of_ble_eq_true rfl) ?_; intro W4 hb1 ht1; have H5 := Lib.hid (H.out.push (newR s) ⟨rfl, rfl⟩ HH.out HO3.out HB3.out hb1 ht1); rw [← HM1.out] at H5; clear hb1 ht1))
      exact ⟨⟨j + 1, _, _, by go_num, by omega, H5⟩, by simp [intOf]; omega⟩
    · have tj : decide ((j : Int) < (n : Int)) = false := by rw [decide_eq_false_iff_not]; omega
      have hjn2 : j = n := by omega
      have H5 := H
      rw [hjn2, HE.out] at H5
      go_wp2_with fail
      go_ret
      exact ⟨⟨_, _, _, rfl, H5.out⟩, H5.out.bel⟩
end Go.Proofs.YtcpkkaimingnlaaGreatDoor
