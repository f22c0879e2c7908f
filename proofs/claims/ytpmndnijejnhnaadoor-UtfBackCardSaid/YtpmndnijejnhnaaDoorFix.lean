/-
  The reference's Fixed, Valid, Same.
-/
import Derived.Test.YtpmndnijejnhnaaDoorPts
namespace Go.Proofs.YtpmndnijejnhnaaDoor
open Go.RowKit

def fixP (p : Int) : Int := if p < 0 then 65533 else p
def fixedL (l : List UInt8) : List Int := (ptsL l).map fixP
theorem ints_at (l : List Int) (k : Nat) (h : k < l.length) : (ints l)[k]? = some (.int .i64 (l.getD k 0)) := by simp [ints, h]
theorem take_snocI (l : List Int) (k : Nat) (h : k < l.length) : l.take (k + 1) = l.take k ++ [l.getD k 0] := by
  rw [List.take_succ_eq_append_getElem h]; simp [h]

set_option maxHeartbeats 2000000 in
theorem valid_any (l : List UInt8) (w : World) (hl : l.length ≤ 10000) :
    Calls Tryd.prog 13 #[.string ⟨l.toArray⟩] w fun e w' => e = .returned (.bool ((ptsL l).all fun p => decide (0 ≤ p))) ∧ Below w.heap.size w w' := by
  have hlen := ptsL_length _ l (Nat.le_refl _)
  have H28 := Lib.hid (points_any l w hl)
  obtain ⟨P, hP⟩ : ∃ P, P = ptsL l := ⟨_, rfl⟩
  rw [← hP] at H28 hlen ⊢
  clear hP
  obtain ⟨n, hn⟩ : ∃ n, n = P.length := ⟨_, rfl⟩
  rw [← hn] at H28 hlen
  have Hn := Lib.hid hn; clear hn
  go_enter Tryd.func13, Tryd.ntmps13
  go_wp2_with fail
  refine H28.out.mono ?_
  rintro e w1 ⟨v1, rfl, o1, b1⟩
  obtain ⟨A1, c1, rfl, hc1, _⟩ := own_form o1
  have Hr := Lib.hid (Rd.of_own o1)
  clear H28 o1
  go_wp2_with fail
  go_loopw [8] (fun i wr => ∃ k : Nat, k ≤ n ∧ i = .int .i64 k ∧ ((P.take k).all fun p => decide (0 ≤ p)) = true ∧ wr = w1)
    (fun i _ => n - (intOf i).toNat)
  case atStart => exact ⟨0, by omega, rfl, rfl, rfl⟩
  case round =>
    obtain ⟨k, hk, rfl, hall, rfl⟩ := hrel
    have Hall := Lib.hid hall; clear hall
    by_cases hk8 : k < n
    · obtain ⟨b, off, rfl, hb, hcell⟩ := Hr.out.at_ (by omega)
      have hkl : k < P.length := by rw [← Hn.out]; exact hk8
      have hck : wr.cell? ⟨b, off + k, none⟩ = some (.int .i64 (P.getD k 0)) := by
        rw [hcell k (by omega)]; exact ints_at P k hkl
      have Hsn := Lib.hid (take_snocI P k hkl)
      have Hget := Lib.hid (show P.getD k 0 ∈ P from by simp [hkl])
      clear hcell hkl
      obtain ⟨p, hp⟩ : ∃ p, p = P.getD k 0 := ⟨_, rfl⟩
      rw [← hp] at hck Hsn Hget
      clear hp
      by_cases hneg : p < 0
      · have tn : decide (p < 0) = true := by rw [decide_eq_true_eq]; exact hneg
        go_wp2_with fail
        go_ret
        refine ⟨?_, b1⟩
        have : (P.all fun p => decide (0 ≤ p)) = false := by
          rw [List.all_eq_false]; exact ⟨p, Hget.out, by simp; omega⟩
        rw [this]
        rfl
      · have tn : decide (p < 0) = false := by rw [decide_eq_false_iff_not]; exact hneg
        go_wp2_with fail
        go_roundw
        case rel =>
          refine ⟨k + 1, by omega, by go_num, ?_, by simp⟩
          rw [Hsn.out, List.all_append, Hall.out]; simp; omega
        case measure => simp [intOf]; omega
    · obtain rfl : k = n := by omega
      have hfin : (P.all fun p => decide (0 ≤ p)) = true := by
        have := Hall.out
        rw [List.take_of_length_le (by rw [← Hn.out]; exact Nat.le_refl _)] at this; exact this
      have Hfin := Lib.hid hfin; clear hfin
      go_wp2_with fail
      go_ret
      exact ⟨by rw [Hfin.out]; rfl, b1⟩

set_option maxHeartbeats 2000000 in
theorem fixed_any (l : List UInt8) (w : World) (hl : l.length ≤ 10000) :
    Calls Tryd.prog 16 #[.string ⟨l.toArray⟩] w fun e w' => ∃ v, e = .returned v ∧ w'.ownsRow w.heap.size 3 1 v (fixedL l).length (ints (fixedL l)) ∧ Below w.heap.size w w' := by
  have hlen := ptsL_length _ l (Nat.le_refl _)
  have H28 := Lib.hid (points_any l w hl)
  show Calls Tryd.prog 16 #[.string ⟨l.toArray⟩] w fun e w' => ∃ v, e = .returned v ∧ w'.ownsRow w.heap.size 3 1 v ((ptsL l).map fixP).length (ints ((ptsL l).map fixP)) ∧ Below w.heap.size w w'
  obtain ⟨P, hP⟩ : ∃ P, P = ptsL l := ⟨_, rfl⟩
  rw [← hP] at H28 hlen ⊢
  clear hP
  obtain ⟨n, hn⟩ : ∃ n, n = P.length := ⟨_, rfl⟩
  rw [← hn] at H28 hlen
  have Hn := Lib.hid hn; clear hn
  go_enter Tryd.func16, Tryd.ntmps16
  go_wp2_with fail
  refine H28.out.mono ?_
  rintro e w1 ⟨v1, rfl, o1, b1⟩
  obtain ⟨A1, c1, rfl, hc1, _⟩ := own_form o1
  have Hr := Lib.hid (Rd.of_own o1)
  have hs1 := b1.size
  clear H28 o1
  go_wp2_with fail
  go_loopw [3, 9] (fun v i wr => ∃ k : Nat, k ≤ n ∧ i = .int .i64 k ∧ wr.ownsRow w1.heap.size 3 1 v k (ints ((P.take k).map fixP)) ∧ Below w1.heap.size w1 wr)
    (fun _ i _ => n - (intOf i).toNat)
  case atStart => exact ⟨0, by omega, rfl, World.ownsRow_nil _ _ _ _, Below.refl _ _⟩
  case round =>
    obtain ⟨k, hk, rfl, hown, hB⟩ := hrel
    obtain ⟨A2, c2, rfl, hc2, _⟩ := own_form hown
    have Hown := Lib.hid hown; have hbs := hB.size; clear hown
    by_cases hk8 : k < n
    · obtain ⟨b, off, rfl, hb, hcell⟩ := Hr.out.at_ (by omega)
      have hkl : k < P.length := by rw [← Hn.out]; exact hk8
      have hck : wr.cell? ⟨b, off + k, none⟩ = some (.int .i64 (P.getD k 0)) := by
        rw [hB.cell (p := ⟨b, off + k, none⟩) hb, hcell k (by omega)]; exact ints_at P k hkl
      have hsn : (P.take (k + 1)).map fixP = (P.take k).map fixP ++ [fixP (P.getD k 0)] := by rw [take_snocI P k hkl, List.map_append]; rfl
      clear hcell hkl
      obtain ⟨p, hp⟩ : ∃ p, p = P.getD k 0 := ⟨_, rfl⟩
      rw [← hp] at hck hsn
      clear hp
      by_cases hneg : p < 0
      · have tn : decide (p < 0) = true := by rw [decide_eq_true_eq]; exact hneg
        rw [show fixP p = 65533 from if_pos hneg] at hsn
        have Hsn := Lib.hid hsn; clear hsn
        go_wp2_with (at_builtin; refine wpList_push rfl (.tmp 15) (.tmp 17) 25 rfl w1.heap.size 3 (.int .i64 0) 1 8 Tryd.underlying25 (by kernel_rfl) rfl (by decide) _ _ _ rfl Hown.out _ 1 (by decide) rfl rfl rfl (by omega) (by omega) (by omega) ?_; intro g4 cap4 w4 hown4 hg4 hb4; rw [ints_snoc] at hown4; have Hown4 := Lib.hid hown4; clear hown4)
        go_roundw
        case rel => exact ⟨k + 1, by omega, by go_num, by rw [Hsn.out]; exact Hown4.out, hB.trans hb4⟩
        case measure => simp [intOf]; omega
      · have tn : decide (p < 0) = false := by rw [decide_eq_false_iff_not]; exact hneg
        rw [show fixP p = p from if_neg hneg] at hsn
        have Hsn := Lib.hid hsn; clear hsn
        go_wp2_with (at_builtin; refine wpList_push rfl (.tmp 15) (.tmp 17) 25 rfl w1.heap.size 3 (.int .i64 0) 1 8 Tryd.underlying25 (by kernel_rfl) rfl (by decide) _ _ _ rfl Hown.out _ 1 (by decide) rfl rfl rfl (by omega) (by omega) (by omega) ?_; intro g4 cap4 w4 hown4 hg4 hb4; rw [ints_snoc] at hown4; have Hown4 := Lib.hid hown4; clear hown4)
        go_roundw
        case rel => exact ⟨k + 1, by omega, by go_num, by rw [Hsn.out]; exact Hown4.out, hB.trans hb4⟩
        case measure => simp [intOf]; omega
    · obtain rfl : k = n := by omega
      have hfin : (P.take k).map fixP = P.map fixP := by rw [List.take_of_length_le (by rw [← Hn.out]; exact Nat.le_refl _)]
      have Hfin := Lib.hid hfin; clear hfin
      go_wp2_with fail
      go_ret
      refine ⟨_, rfl, ?_, b1.trans (hB.mono hs1)⟩
      have := Hown.out
      rw [Hfin.out] at this
      rw [List.length_map, ← Hn.out]
      exact own_base this hs1
set_option maxHeartbeats 2000000 in
theorem same_any (a b : List Int) (Aa Ab : Option Addr) (ca cb B : Nat) (w : World) (ha : Rd w B 1 Aa a.length (ints a)) (hb : Rd w B 1 Ab b.length (ints b)) (hla : a.length ≤ 100000) (hlb : b.length ≤ 100000) :
    Calls Tryd.prog 14 #[.slice Aa a.length ca, .slice Ab b.length cb] w fun e w' => e = .returned (.bool (decide (a = b))) ∧ ∃ q, w' = w.drewN q := by
  obtain ⟨n, hn⟩ : ∃ n, n = a.length := ⟨_, rfl⟩
  obtain ⟨m, hm⟩ : ∃ m, m = b.length := ⟨_, rfl⟩
  rw [← hn] at ha hla ⊢
  rw [← hm] at hb hlb ⊢
  have Ha := Lib.hid ha; have Hb := Lib.hid hb; have Hn := Lib.hid hn; have Hm := Lib.hid hm
  clear ha hb hn hm
  by_cases hnm : n = m
  · subst hnm
    have tl : ((n : Int) != (n : Int)) = false := by simp
    go_enter Tryd.func14, Tryd.ntmps14
    go_wp2_with fail
    go_loopw [13] (fun i wr => ∃ k : Nat, k ≤ n ∧ i = .int .i64 k ∧ a.take k = b.take k ∧ ∃ q, wr = w.drewN q)
      (fun i _ => n - (intOf i).toNat)
    case atStart => exact ⟨0, by omega, rfl, rfl, 0, rfl⟩
    case round =>
      obtain ⟨k, hk, rfl, hall, q, rfl⟩ := hrel
      have Hall := Lib.hid hall; clear hall
      by_cases hk8 : k < n
      · obtain ⟨b1, o1, rfl, hb1, hc1⟩ := Ha.out.at_ (by omega)
        obtain ⟨b2, o2, rfl, hb2, hc2⟩ := Hb.out.at_ (by omega)
        have hka : k < a.length := by rw [← Hn.out]; exact hk8
        have hkb : k < b.length := by rw [← Hm.out]; exact hk8
        have c1 : w.cell? ⟨b1, o1 + k, none⟩ = some (.int .i64 (a.getD k 0)) := (hc1 k (by omega)).trans (ints_at a k hka)
        have c2 : w.cell? ⟨b2, o2 + k, none⟩ = some (.int .i64 (b.getD k 0)) := (hc2 k (by omega)).trans (ints_at b k hkb)
        have l1 : (k : Int) < (n : Int) := by omega
        have Hsa := Lib.hid (take_snocI a k hka)
        have Hsb := Lib.hid (take_snocI b k hkb)
        have Hne : Hid (a.getD k 0 ≠ b.getD k 0 → ¬ a = b) := fun h e => h (by rw [e])
        clear hc1 hc2 hka hkb
        obtain ⟨x, hx⟩ : ∃ x, x = a.getD k 0 := ⟨_, rfl⟩
        obtain ⟨y, hy⟩ : ∃ y, y = b.getD k 0 := ⟨_, rfl⟩
        rw [← hx] at c1 Hsa Hne
        rw [← hy] at c2 Hsb Hne
        clear hx hy
        by_cases hxy : x = y
        · subst hxy
          have tn : (x != x) = false := by simp
          go_wp2_with fail
          go_quiet (fail)
          go_wp2_with fail
          go_roundw
          case rel => exact ⟨k + 1, by omega, by go_num, by rw [Hsa.out, Hsb.out, Hall.out], q + nq, rfl⟩
          case measure => simp [intOf]; omega
        · have tn : (x != y) = true := by simpa using hxy
          have hno : decide (a = b) = false := by rw [decide_eq_false_iff_not]; exact Hne.out hxy
          have Hno := Lib.hid hno; clear hno
          go_wp2_with fail
          go_quiet (fail)
          go_wp2_with fail
          go_ret
          exact ⟨by rw [Hno.out]; rfl, q + nq, by simp [World.drewN, Nat.add_assoc]⟩
      · obtain rfl : k = n := by omega
        have he : a = b := by
          have := Hall.out
          rwa [List.take_of_length_le (by rw [← Hn.out]; exact Nat.le_refl _), List.take_of_length_le (by rw [← Hm.out]; exact Nat.le_refl _)] at this
        have hye : decide (a = b) = true := by rw [decide_eq_true_eq]; exact he
        have Hye := Lib.hid hye; clear he hye
        go_wp2_with fail
        go_ret
        exact ⟨by rw [Hye.out]; rfl, q, rfl⟩
  · have tl : ((n : Int) != (m : Int)) = true := by simp; omega
    have hno : decide (a = b) = false := by rw [decide_eq_false_iff_not]; intro e; exact hnm (by rw [Hn.out, Hm.out, e])
    have Hno := Lib.hid hno; clear hno
    go_enter Tryd.func14, Tryd.ntmps14
    go_wp2_with fail
    go_ret
    exact ⟨by rw [Hno.out]; rfl, 0, rfl⟩
end Go.Proofs.YtpmndnijejnhnaaDoor
