/-
  The law UtfMakes, walked.
-/
import Derived.Test.YtpmndnijejnhnaaDoorFst
namespace Go.Proofs.YtpmndnijejnhnaaDoor
open Go.RowKit

set_option maxHeartbeats 4000000 in
set_option maxRecDepth 100000 in
theorem law9 (a : List Int) (A : Option Addr) (cap B : Nat) (w : World) (ha : Rd w B 1 A a.length (ints a)) (hB0 : B ≤ w.heap.size) (hcap : a.length ≤ cap) (hT : Lib.Utf8Tabs 0 1 w) :
    Calls Tryd.prog 9 #[.slice A a.length cap] w fun e w' => e = .returned (.bool true) ∧ Below w.heap.size w w' := by
  have H11 := Lib.hid (first_any w hT)
  by_cases h : a.length ≤ 2000
  · have C25 : ∀ w1 : World, Below w.heap.size w w1 → Calls Tryd.prog 25 #[.slice A a.length cap] w1 fun e w' => e = .returned (.tuple #[.string ⟨(makeL a).toArray⟩, .int .i64 (makeE a)]) ∧ Below w1.heap.size w1 w' :=
      fun w1 hb => make_any a A cap B w1 (ha.keep (hb.mono hB0)) (Nat.le_trans hB0 hb.size) (by omega)
    have C22 : ∀ w1 : World, Below w.heap.size w w1 → okL a = true → Calls Tryd.prog 22 #[.slice A a.length cap] w1 fun e w' => e = .returned (.string ⟨(textL a).toArray⟩) ∧ Below w1.heap.size w1 w' :=
      fun w1 hb ho => text_any a A cap B w1 (ha.keep (hb.mono hB0)) (Nat.le_trans hB0 hb.size) hcap (by omega) (fun p hp => isPt_range (by unfold okL at ho; exact List.all_eq_true.1 ho p hp))
    obtain ⟨n, hn⟩ : ∃ n, n = a.length := ⟨_, rfl⟩
    rw [← hn] at ha hcap C25 C22 h ⊢
    have Ha := Lib.hid ha; have Hn := Lib.hid hn
    clear ha hn
    have t1 : decide ((n : Int) > 2000) = false := by rw [decide_eq_false_iff_not]; omega
    have C25 := Lib.hid C25
    have C22 := Lib.hid C22
    by_cases hok : okL a = true
    · have e1 : makeL a = textL a := if_pos hok
      have e2 : makeE a = 0 := if_pos hok
      rw [e1, e2] at C25
      have Hok := Lib.hid hok; clear hok e1 e2
      go_enter Tryd.func9, Tryd.ntmps9
      go_wp2_with fail
      refine H11.out.mono ?_
      rintro e w1 ⟨rfl, b1⟩
      have hs1 := b1.size
      clear H11
      have HC1 := Lib.hid (C25.out w1 b1)
      go_wp2_with fail
      refine HC1.out.mono ?_
      rintro e w2 ⟨rfl, b2⟩
      have hs2 := b2.size
      have hb2 := b1.trans (b2.mono hs1)
      clear HC1
      go_wp2_with fail
      go_loopw [19] (fun i wr => ∃ k : Nat, k ≤ n ∧ i = .int .i64 k ∧ wr = w2) (fun i _ => n - (intOf i).toNat)
      case atStart => exact ⟨0, by omega, rfl, rfl⟩
      case round =>
        obtain ⟨k, hk, rfl, rfl⟩ := hrel
        by_cases hk8 : k < n
        · obtain ⟨b, off, rfl, hb, hcell⟩ := Ha.out.at_ (by omega)
          have hkl : k < a.length := by rw [← Hn.out]; exact hk8
          have hck : wr.cell? ⟨b, off + k, none⟩ = some (.int .i64 (a.getD k 0)) := by
            rw [hb2.cell (p := ⟨b, off + k, none⟩) (by show b < _; omega), hcell k (by omega)]; exact ints_at a k hkl
          have hip : isPt (a.getD k 0) = true := by
            have := Hok.out; unfold okL at this
            exact List.all_eq_true.1 this _ (by simp [hkl])
          clear hcell hkl
          obtain ⟨p, hp⟩ : ∃ p, p = a.getD k 0 := ⟨_, rfl⟩
          rw [← hp] at hck hip
          clear hp
          have H26 := Lib.hid (is_any p wr)
          rw [hip] at H26
          clear hip
          go_wp2_with (go_at_call 26; refine H26.out.mono ?_; rintro e W' ⟨rfl, rfl⟩)
          go_roundw
          case rel => exact ⟨k + 1, by omega, by go_num, by simp⟩
          case measure => simp [intOf]; omega
        · obtain rfl : k = n := by omega
          have HC2 := Lib.hid (C22.out wr hb2 Hok.out)
          go_wp2_with fail
          refine HC2.out.mono ?_
          rintro e w3 ⟨rfl, b3⟩
          clear HC2
          go_wp2_with fail
          go_ret
          exact ⟨by first | rfl | simp, hb2.trans (b3.mono (by omega))⟩
    · have e1 : makeL a = [] := if_neg hok
      have e2 : makeE a = 2 := if_neg hok
      rw [e1, e2] at C25
      have Hok := Lib.hid hok; clear hok e1 e2
      go_enter Tryd.func9, Tryd.ntmps9
      go_wp2_with fail
      refine H11.out.mono ?_
      rintro e w1 ⟨rfl, b1⟩
      have hs1 := b1.size
      clear H11
      have HC1 := Lib.hid (C25.out w1 b1)
      go_wp2_with fail
      refine HC1.out.mono ?_
      rintro e w2 ⟨rfl, b2⟩
      have hs2 := b2.size
      have hb2 := b1.trans (b2.mono hs1)
      clear HC1
      go_wp2_with fail
      go_loopw [19] (fun i wr => ∃ k : Nat, k ≤ n ∧ i = .int .i64 k ∧ okL (a.take k) = true ∧ wr = w2) (fun i _ => n - (intOf i).toNat)
      case atStart => exact ⟨0, by omega, rfl, rfl, rfl⟩
      case round =>
        obtain ⟨k, hk, rfl, hall, rfl⟩ := hrel
        have Hall := Lib.hid hall; clear hall
        by_cases hk8 : k < n
        · obtain ⟨b, off, rfl, hb, hcell⟩ := Ha.out.at_ (by omega)
          have hkl : k < a.length := by rw [← Hn.out]; exact hk8
          have hck : wr.cell? ⟨b, off + k, none⟩ = some (.int .i64 (a.getD k 0)) := by
            rw [hb2.cell (p := ⟨b, off + k, none⟩) (by show b < _; omega), hcell k (by omega)]; exact ints_at a k hkl
          have Hsn := Lib.hid (take_snocI a k hkl)
          clear hcell hkl
          obtain ⟨p, hp⟩ : ∃ p, p = a.getD k 0 := ⟨_, rfl⟩
          rw [← hp] at hck Hsn
          clear hp
          have H26 := Lib.hid (is_any p wr)
          cases hip : isPt p with
          | true =>
            rw [hip] at H26
            have hok1 : okL (a.take (k + 1)) = true := by
              rw [Hsn.out]; unfold okL; rw [List.all_append]
              have := Hall.out; unfold okL at this; rw [this]; simp [hip]
            have Hok1 := Lib.hid hok1; clear hok1 hip
            go_wp2_with (go_at_call 26; refine H26.out.mono ?_; rintro e W' ⟨rfl, rfl⟩)
            go_roundw
            case rel => exact ⟨k + 1, by omega, by go_num, Hok1.out, by simp⟩
            case measure => simp [intOf]; omega
          | false =>
            rw [hip] at H26
            clear hip
            go_wp2_with (go_at_call 26; refine H26.out.mono ?_; rintro e W' ⟨rfl, rfl⟩)
            go_ret
            exact ⟨by first | rfl | simp, hb2⟩
        · obtain rfl : k = n := by omega
          have hfin : a.take k = a := List.take_of_length_le (by rw [← Hn.out]; exact Nat.le_refl _)
          have := Hall.out
          rw [hfin] at this
          exact absurd this Hok.out
  · have t1 : decide ((a.length : Int) > 2000) = true := by rw [decide_eq_true_eq]; omega
    go_enter Tryd.func9, Tryd.ntmps9
    go_wp2_with fail
    refine H11.out.mono ?_
    rintro e w1 ⟨rfl, b1⟩
    go_wp2_with fail
    go_ret
    exact ⟨rfl, b1⟩
end Go.Proofs.YtpmndnijejnhnaaDoor
