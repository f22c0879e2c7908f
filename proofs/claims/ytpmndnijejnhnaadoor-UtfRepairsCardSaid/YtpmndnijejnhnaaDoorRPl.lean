/-
  The reference's Plain.
-/
import Derived.Test.YtpmndnijejnhnaaDoorLaw
namespace Go.Proofs.YtpmndnijejnhnaaDoor
open Go.RowKit

set_option maxHeartbeats 4000000 in
theorem rplain_any (l : List UInt8) (w : World) (hl : l.length ≤ 10000) :
    Calls Tryd.prog 24 #[.string ⟨l.toArray⟩] w fun e w' => e = .returned (.string ⟨(plainL l).toArray⟩) ∧ Below w.heap.size w w' := by
  have hlen := fixedL_length l
  have hpt := fixedL_pts l
  have H16 := Lib.hid (fixed_any l w hl)
  show Calls Tryd.prog 24 #[.string ⟨l.toArray⟩] w fun e w' => e = .returned (.string ⟨(textL ((fixedL l).filter xmlP)).toArray⟩) ∧ Below w.heap.size w w'
  obtain ⟨P, hP⟩ : ∃ P, P = fixedL l := ⟨_, rfl⟩
  rw [← hP] at H16 hlen hpt ⊢
  clear hP
  obtain ⟨n, hn⟩ : ∃ n, n = P.length := ⟨_, rfl⟩
  rw [← hn] at H16 hlen
  have Hn := Lib.hid hn; have Hpt := Lib.hid hpt; clear hn hpt
  go_enter Tryd.func24, Tryd.ntmps24
  go_wp2_with fail
  refine H16.out.mono ?_
  rintro e w1 ⟨v1, rfl, o1, b1⟩
  obtain ⟨A1, c1, rfl, hc1, _⟩ := own_form o1
  have Hr := Lib.hid (Rd.of_own o1)
  have hs1 := b1.size
  clear H16 o1
  go_wp2_with fail
  go_loopw [3, 9] (fun v i wr => ∃ k q : Nat, k ≤ n ∧ q ≤ k ∧ i = .int .i64 k ∧ q = ((P.take k).filter xmlP).length ∧ wr.ownsRow w1.heap.size 3 1 v q (ints ((P.take k).filter xmlP)) ∧ Below w1.heap.size w1 wr)
    (fun _ i _ => n - (intOf i).toNat)
  case atStart => exact ⟨0, 0, by omega, by omega, rfl, rfl, World.ownsRow_nil _ _ _ _, Below.refl _ _⟩
  case round =>
    obtain ⟨k, q, hk, hqk, rfl, hq, hown, hB⟩ := hrel
    obtain ⟨A2, c2, rfl, hc2, _⟩ := own_form hown
    have Hown := Lib.hid hown; have Hq := Lib.hid hq; have hbs := hB.size; clear hown hq
    by_cases hk8 : k < n
    · obtain ⟨b, off, rfl, hb, hcell⟩ := Hr.out.at_ (by omega)
      have hkl : k < P.length := by rw [← Hn.out]; exact hk8
      have hck : wr.cell? ⟨b, off + k, none⟩ = some (.int .i64 (P.getD k 0)) := by
        rw [hB.cell (p := ⟨b, off + k, none⟩) hb, hcell k (by omega)]; exact ints_at P k hkl
      have hsn : P.take (k + 1) = P.take k ++ [P.getD k 0] := take_snocI P k hkl
      clear hcell hkl
      obtain ⟨p, hp⟩ : ∃ p, p = P.getD k 0 := ⟨_, rfl⟩
      rw [← hp] at hck hsn
      clear hp
      by_cases h32 : 32 ≤ p
      · have t1 : decide (p ≥ 32) = true := by rw [decide_eq_true_eq]; exact h32
        by_cases h4 : p = 65534
        · subst h4
          have hx : xmlP 65534 = false := by decide
          have e1 : (P.take (k + 1)).filter xmlP = (P.take k).filter xmlP := by rw [hsn, List.filter_append]; simp [hx]
          have E1 := Lib.hid e1; clear e1 hsn hx
          go_wp2_with fail
          go_roundw
          case rel => exact ⟨k + 1, q, by omega, by omega, by go_num, by rw [E1.out]; exact Hq.out, by rw [E1.out]; exact Hown.out, hB⟩
          case measure => simp [intOf]; omega
        · by_cases h5 : p = 65535
          · subst h5
            have hx : xmlP 65535 = false := by decide
            have e1 : (P.take (k + 1)).filter xmlP = (P.take k).filter xmlP := by rw [hsn, List.filter_append]; simp [hx]
            have E1 := Lib.hid e1; clear e1 hsn hx
            go_wp2_with fail
            go_roundw
            case rel => exact ⟨k + 1, q, by omega, by omega, by go_num, by rw [E1.out]; exact Hq.out, by rw [E1.out]; exact Hown.out, hB⟩
            case measure => simp [intOf]; omega
          · have t2 : (p != 65534) = true := by simpa using h4
            have t3 : (p != 65535) = true := by simpa using h5
            have hx : xmlP p = true := by simp [xmlP, h32, h4, h5]
            clear h32 h4 h5
            have e1 : (P.take (k + 1)).filter xmlP = (P.take k).filter xmlP ++ [p] := by rw [hsn, List.filter_append]; simp [hx]
            have E1 := Lib.hid e1; clear e1 hsn hx
            go_wp2_with (at_builtin; refine wpList_push rfl (.tmp 35) (.tmp 37) 25 rfl w1.heap.size 3 (.int .i64 0) 1 8 Tryd.underlying25 (by kernel_rfl) rfl (by decide) _ _ _ rfl Hown.out _ 1 (by decide) rfl rfl rfl (by omega) (by omega) (by omega) ?_; intro g4 cap4 w4 hown4 hg4 hb4; rw [ints_snoc] at hown4; have Hown4 := Lib.hid hown4; clear hown4)
            go_roundw
            case rel => exact ⟨k + 1, q + 1, by omega, by omega, by go_num, by rw [E1.out, List.length_append, ← Hq.out]; rfl, by rw [E1.out]; exact Hown4.out, hB.trans hb4⟩
            case measure => simp [intOf]; omega
      · have t1 : decide (p ≥ 32) = false := by rw [decide_eq_false_iff_not]; omega
        by_cases h9 : p = 9
        · subst h9
          have hx : xmlP 9 = true := by decide
          clear h32
          have e1 : (P.take (k + 1)).filter xmlP = (P.take k).filter xmlP ++ [9] := by rw [hsn, List.filter_append]; simp [hx]
          have E1 := Lib.hid e1; clear e1 hsn hx
          go_wp2_with (at_builtin; refine wpList_push rfl (.tmp 35) (.tmp 37) 25 rfl w1.heap.size 3 (.int .i64 0) 1 8 Tryd.underlying25 (by kernel_rfl) rfl (by decide) _ _ _ rfl Hown.out _ 1 (by decide) rfl rfl rfl (by omega) (by omega) (by omega) ?_; intro g4 cap4 w4 hown4 hg4 hb4; rw [ints_snoc] at hown4; have Hown4 := Lib.hid hown4; clear hown4)
          go_roundw
          case rel => exact ⟨k + 1, q + 1, by omega, by omega, by go_num, by rw [E1.out, List.length_append, ← Hq.out]; rfl, by rw [E1.out]; exact Hown4.out, hB.trans hb4⟩
          case measure => simp [intOf]; omega
        · by_cases h10 : p = 10
          · subst h10
            have hx : xmlP 10 = true := by decide
            clear h32
            have e1 : (P.take (k + 1)).filter xmlP = (P.take k).filter xmlP ++ [10] := by rw [hsn, List.filter_append]; simp [hx]
            have E1 := Lib.hid e1; clear e1 hsn hx
            go_wp2_with (at_builtin; refine wpList_push rfl (.tmp 35) (.tmp 37) 25 rfl w1.heap.size 3 (.int .i64 0) 1 8 Tryd.underlying25 (by kernel_rfl) rfl (by decide) _ _ _ rfl Hown.out _ 1 (by decide) rfl rfl rfl (by omega) (by omega) (by omega) ?_; intro g4 cap4 w4 hown4 hg4 hb4; rw [ints_snoc] at hown4; have Hown4 := Lib.hid hown4; clear hown4)
            go_roundw
            case rel => exact ⟨k + 1, q + 1, by omega, by omega, by go_num, by rw [E1.out, List.length_append, ← Hq.out]; rfl, by rw [E1.out]; exact Hown4.out, hB.trans hb4⟩
            case measure => simp [intOf]; omega
          · by_cases h13 : p = 13
            · subst h13
              have hx : xmlP 13 = true := by decide
              clear h32
              have e1 : (P.take (k + 1)).filter xmlP = (P.take k).filter xmlP ++ [13] := by rw [hsn, List.filter_append]; simp [hx]
              have E1 := Lib.hid e1; clear e1 hsn hx
              go_wp2_with (at_builtin; refine wpList_push rfl (.tmp 35) (.tmp 37) 25 rfl w1.heap.size 3 (.int .i64 0) 1 8 Tryd.underlying25 (by kernel_rfl) rfl (by decide) _ _ _ rfl Hown.out _ 1 (by decide) rfl rfl rfl (by omega) (by omega) (by omega) ?_; intro g4 cap4 w4 hown4 hg4 hb4; rw [ints_snoc] at hown4; have Hown4 := Lib.hid hown4; clear hown4)
              go_roundw
              case rel => exact ⟨k + 1, q + 1, by omega, by omega, by go_num, by rw [E1.out, List.length_append, ← Hq.out]; rfl, by rw [E1.out]; exact Hown4.out, hB.trans hb4⟩
              case measure => simp [intOf]; omega
            · have t2 : (p == 9) = false := by simpa using h9
              have t3 : (p == 10) = false := by simpa using h10
              have t4 : (p == 13) = false := by simpa using h13
              have hx : xmlP p = false := by simp [xmlP, h32, h9, h10, h13]
              clear h32 h9 h10 h13
              have e1 : (P.take (k + 1)).filter xmlP = (P.take k).filter xmlP := by rw [hsn, List.filter_append]; simp [hx]
              have E1 := Lib.hid e1; clear e1 hsn hx
              go_wp2_with fail
              go_roundw
              case rel => exact ⟨k + 1, q, by omega, by omega, by go_num, by rw [E1.out]; exact Hq.out, by rw [E1.out]; exact Hown.out, hB⟩
              case measure => simp [intOf]; omega
    · obtain rfl : k = n := by omega
      have hfin : P.take k = P := List.take_of_length_le (by rw [← Hn.out]; exact Nat.le_refl _)
      have hown := Hown.out
      rw [hfin] at hown
      have hql : q = (P.filter xmlP).length := by rw [Hq.out, hfin]
      have hr2 : Rd wr wr.heap.size 1 A2 (P.filter xmlP).length (ints (P.filter xmlP)) := by rw [← hql]; exact Rd.of_own hown
      have H22 := Lib.hid (text_any (P.filter xmlP) A2 c2 wr.heap.size wr hr2 (Nat.le_refl _) (by rw [← hql]; exact hc2) (by rw [← hql]; omega) (fun p hp => isPt_range (Hpt.out p (List.mem_filter.1 hp).1)))
      rw [← hql] at H22
      clear hown hr2 hfin hql
      go_wp2_with fail
      refine H22.out.mono ?_
      rintro e w' ⟨rfl, hb⟩
      go_wp2_with fail
      go_ret
      exact ⟨rfl, b1.trans ((hB.trans (hb.mono hbs)).mono hs1)⟩
end Go.Proofs.YtpmndnijejnhnaaDoor
