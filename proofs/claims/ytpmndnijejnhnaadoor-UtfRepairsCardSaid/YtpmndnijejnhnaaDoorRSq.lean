/-
  The reference's Squeeze.
-/
import Derived.Test.YtpmndnijejnhnaaDoorRPl
import Derived.Test.YtpmndnijejnhnaaDoorLaw
namespace Go.Proofs.YtpmndnijejnhnaaDoor
open Go.RowKit

set_option maxHeartbeats 4000000 in
theorem rsqueeze_any (l : List UInt8) (w : World) (hl : l.length ≤ 10000) :
    Calls Tryd.prog 18 #[.string ⟨l.toArray⟩] w fun e w' => e = .returned (.string ⟨(squeezeL l).toArray⟩) ∧ Below w.heap.size w w' := by
  have hlen := fixedL_length l
  have hpt := fixedL_pts l
  have H16 := Lib.hid (fixed_any l w hl)
  show Calls Tryd.prog 18 #[.string ⟨l.toArray⟩] w fun e w' => e = .returned (.string ⟨(textL (sqL (fixedL l))).toArray⟩) ∧ Below w.heap.size w w'
  obtain ⟨P, hP⟩ : ∃ P, P = fixedL l := ⟨_, rfl⟩
  rw [← hP] at H16 hlen hpt ⊢
  clear hP
  obtain ⟨n, hn⟩ : ∃ n, n = P.length := ⟨_, rfl⟩
  rw [← hn] at H16 hlen
  have Hn := Lib.hid hn; have Hpt := Lib.hid hpt; clear hn hpt
  go_enter Tryd.func18, Tryd.ntmps18
  go_wp2_with fail
  refine H16.out.mono ?_
  rintro e w1 ⟨v1, rfl, o1, b1⟩
  obtain ⟨A1, c1, rfl, hc1, _⟩ := own_form o1
  have Hr := Lib.hid (Rd.of_own o1)
  have hs1 := b1.size
  clear H16 o1
  go_wp2_with fail
  go_loopw [3, 4, 10] (fun v fl i wr => ∃ (k q : Nat) (bl : Bool) (O : List Int), k ≤ n ∧ q ≤ 2 * k ∧ i = .int .i64 k ∧ fl = .bool bl ∧ sqS (P.take k) = (O, bl) ∧ q = O.length ∧ wr.ownsRow w1.heap.size 3 1 v q (ints O) ∧ Below w1.heap.size w1 wr)
    (fun _ _ i _ => n - (intOf i).toNat)
  case atStart => exact ⟨0, 0, false, [], by omega, by omega, rfl, rfl, rfl, rfl, World.ownsRow_nil _ _ _ _, Below.refl _ _⟩
  case round =>
    obtain ⟨k, q, bl, O, hk, hqk, rfl, rfl, hsq, hq, hown, hB⟩ := hrel
    obtain ⟨A2, c2, rfl, hc2, _⟩ := own_form hown
    have Hown := Lib.hid hown; have Hq := Lib.hid hq; have hbs := hB.size; clear hown hq
    by_cases hk8 : k < n
    · obtain ⟨b, off, rfl, hb, hcell⟩ := Hr.out.at_ (by omega)
      have hkl : k < P.length := by rw [← Hn.out]; exact hk8
      have hck : wr.cell? ⟨b, off + k, none⟩ = some (.int .i64 (P.getD k 0)) := by
        rw [hB.cell (p := ⟨b, off + k, none⟩) hb, hcell k (by omega)]; exact ints_at P k hkl
      have hsn : sqS (P.take (k + 1)) = sqStep (O, bl) (P.getD k 0) := by rw [take_snocI P k hkl, sqS_snoc, hsq]
      clear hcell hkl hsq
      obtain ⟨p, hp⟩ : ∃ p, p = P.getD k 0 := ⟨_, rfl⟩
      rw [← hp] at hck hsn
      clear hp
      by_cases h32 : p = 32
      · subst h32
        have e1 : sqS (P.take (k + 1)) = (O, true) := by rw [hsn]; rfl
        have E1 := Lib.hid e1; clear e1 hsn
        go_wp2_with fail
        go_roundw
        case rel => exact ⟨k + 1, q, true, O, by omega, by omega, by go_num, rfl, E1.out, Hq.out, Hown.out, hB⟩
        case measure => simp [intOf]; omega
      · by_cases h9 : p = 9
        · subst h9
          clear h32
          have e1 : sqS (P.take (k + 1)) = (O, true) := by rw [hsn]; rfl
          have E1 := Lib.hid e1; clear e1 hsn
          go_wp2_with fail
          go_roundw
          case rel => exact ⟨k + 1, q, true, O, by omega, by omega, by go_num, rfl, E1.out, Hq.out, Hown.out, hB⟩
          case measure => simp [intOf]; omega
        · by_cases h10 : p = 10
          · subst h10
            clear h32 h9
            have e1 : sqS (P.take (k + 1)) = (O, true) := by rw [hsn]; rfl
            have E1 := Lib.hid e1; clear e1 hsn
            go_wp2_with fail
            go_roundw
            case rel => exact ⟨k + 1, q, true, O, by omega, by omega, by go_num, rfl, E1.out, Hq.out, Hown.out, hB⟩
            case measure => simp [intOf]; omega
          · by_cases h13 : p = 13
            · subst h13
              clear h32 h9 h10
              have e1 : sqS (P.take (k + 1)) = (O, true) := by rw [hsn]; rfl
              have E1 := Lib.hid e1; clear e1 hsn
              go_wp2_with fail
              go_roundw
              case rel => exact ⟨k + 1, q, true, O, by omega, by omega, by go_num, rfl, E1.out, Hq.out, Hown.out, hB⟩
              case measure => simp [intOf]; omega
            · by_cases h12 : p = 12
              · subst h12
                clear h32 h9 h10 h13
                have e1 : sqS (P.take (k + 1)) = (O, true) := by rw [hsn]; rfl
                have E1 := Lib.hid e1; clear e1 hsn
                go_wp2_with fail
                go_roundw
                case rel => exact ⟨k + 1, q, true, O, by omega, by omega, by go_num, rfl, E1.out, Hq.out, Hown.out, hB⟩
                case measure => simp [intOf]; omega
              · have t1 : (p == 32) = false := by simpa using h32
                have t2 : (p == 9) = false := by simpa using h9
                have t3 : (p == 10) = false := by simpa using h10
                have t4 : (p == 13) = false := by simpa using h13
                have t5 : (p == 12) = false := by simpa using h12
                have hx : isB p = false := by simp [isB, t1, t2, t3, t4, t5]
                clear h32 h9 h10 h13 h12
                cases bl with
                | false =>
                  have e1 : sqS (P.take (k + 1)) = (O ++ [p], false) := by rw [hsn]; simp [sqStep, hx]
                  have E1 := Lib.hid e1; clear e1 hsn hx
                  go_wp2_with (at_builtin; refine wpList_push rfl (.tmp 41) (.tmp 43) 25 rfl w1.heap.size 3 (.int .i64 0) 1 8 Tryd.underlying25 (by kernel_rfl) rfl (by decide) _ _ _ rfl Hown.out _ 1 (by decide) rfl rfl rfl (by omega) (by omega) (by omega) ?_; intro g4 cap4 w4 hown4 hg4 hb4; rw [ints_snoc] at hown4; have Hown4 := Lib.hid hown4; clear hown4)
                  go_roundw
                  case rel => exact ⟨k + 1, q + 1, false, O ++ [p], by omega, by omega, by go_num, rfl, E1.out, by rw [List.length_append, ← Hq.out]; rfl, Hown4.out, hB.trans hb4⟩
                  case measure => simp [intOf]; omega
                | true =>
                  by_cases hq0 : 0 < q
                  · have t6 : decide ((q : Int) > 0) = true := by rw [decide_eq_true_eq]; omega
                    have hOl : 0 < O.length := by rw [← Hq.out]; exact hq0
                    have e1 : sqS (P.take (k + 1)) = ((O ++ [32]) ++ [p], false) := by rw [hsn]; unfold sqStep; rw [if_neg (by rw [hx]; decide), decide_eq_true hOl]; rfl
                    have E1 := Lib.hid e1; clear e1 hsn hx
                    go_wp2_with (first | (at_builtin; refine wpList_push rfl (.tmp 38) (.tmp 39) 25 rfl w1.heap.size 3 (.int .i64 0) 1 8 Tryd.underlying25 (by kernel_rfl) rfl (by decide) _ _ _ rfl Hown.out _ 1 (by decide) rfl rfl rfl (by omega) (by omega) (by omega) ?_; intro g4 cap4 w4 hown4 hg4 hb4; rw [ints_snoc] at hown4; have hsz4 := hb4.size; have Hown4 := Lib.hid hown4; clear hown4) | (at_builtin; refine wpList_push rfl (.tmp 41) (.tmp 43) 25 rfl w1.heap.size 3 (.int .i64 0) 1 8 Tryd.underlying25 (by kernel_rfl) rfl (by decide) _ _ _ rfl Hown4.out _ 1 (by decide) rfl rfl rfl (by omega) (by omega) (by omega) ?_; intro g5 cap5 w5 hown5 hg5 hb5; rw [ints_snoc] at hown5; have Hown5 := Lib.hid hown5; clear hown5))
                    go_roundw
                    case rel => exact ⟨k + 1, q + 1 + 1, false, (O ++ [32]) ++ [p], by omega, by omega, by go_num, rfl, E1.out, by rw [List.length_append, List.length_append, ← Hq.out]; rfl, Hown5.out, (hB.trans hb4).trans (hb5)⟩
                    case measure => simp [intOf]; omega
                  · obtain rfl : q = 0 := by omega
                    have hO : O = [] := List.eq_nil_of_length_eq_zero Hq.out.symm
                    have e1 : sqS (P.take (k + 1)) = (O ++ [p], false) := by rw [hsn]; simp [sqStep, hx, hO]
                    have E1 := Lib.hid e1; clear e1 hsn hx
                    go_wp2_with (at_builtin; refine wpList_push rfl (.tmp 41) (.tmp 43) 25 rfl w1.heap.size 3 (.int .i64 0) 1 8 Tryd.underlying25 (by kernel_rfl) rfl (by decide) _ _ _ rfl Hown.out _ 1 (by decide) rfl rfl rfl (by omega) (by omega) (by omega) ?_; intro g4 cap4 w4 hown4 hg4 hb4; rw [ints_snoc] at hown4; have Hown4 := Lib.hid hown4; clear hown4)
                    go_roundw
                    case rel => exact ⟨k + 1, 0 + 1, false, O ++ [p], by omega, by omega, by go_num, rfl, E1.out, by rw [List.length_append, ← Hq.out]; rfl, Hown4.out, hB.trans hb4⟩
                    case measure => simp [intOf]; omega
    · obtain rfl : k = n := by omega
      have hfin : P.take k = P := List.take_of_length_le (by rw [← Hn.out]; exact Nat.le_refl _)
      rw [hfin] at hsq
      have hO : O = sqL P := by unfold sqL; rw [hsq]
      clear hsq hfin
      have hown := Hown.out
      have hql := Hq.out
      have hr2 : Rd wr wr.heap.size 1 A2 O.length (ints O) := by rw [← hql]; exact Rd.of_own hown
      have H22 := Lib.hid (text_any O A2 c2 wr.heap.size wr hr2 (Nat.le_refl _) (by rw [← hql]; exact hc2) (by rw [← hql]; omega) (fun p hp => isPt_range (sq_pts P Hpt.out p (by rw [← hO]; exact hp))))
      rw [← hql] at H22
      have HO := Lib.hid hO
      clear hown hr2 hql hO
      go_wp2_with fail
      refine H22.out.mono ?_
      rintro e w' ⟨rfl, hb⟩
      go_wp2_with fail
      go_ret
      exact ⟨by rw [HO.out]; rfl, b1.trans ((hB.trans (hb.mono hbs)).mono hs1)⟩
end Go.Proofs.YtpmndnijejnhnaaDoor
