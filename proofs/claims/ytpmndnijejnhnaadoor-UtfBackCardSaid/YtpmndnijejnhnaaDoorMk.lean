/-
  utf.Make.
-/
import Derived.Test.YtpmndnijejnhnaaDoorUSq
namespace Go.Proofs.YtpmndnijejnhnaaDoor
open Go.RowKit

def okL (a : List Int) : Bool := a.all isPt
def makeL (a : List Int) : List UInt8 := if okL a = true then textL a else []
def makeE (a : List Int) : Int := if okL a = true then 0 else 2
set_option maxHeartbeats 4000000 in
set_option maxRecDepth 100000 in
theorem make_any (a : List Int) (A : Option Addr) (cap B : Nat) (w : World) (ha : Rd w B 1 A a.length (ints a)) (hB0 : B ≤ w.heap.size) (hl : a.length ≤ 60000) :
    Calls Tryd.prog 25 #[.slice A a.length cap] w fun e w' => e = .returned (.tuple #[.string ⟨(makeL a).toArray⟩, .int .i64 (makeE a)]) ∧ Below w.heap.size w w' := by
  obtain ⟨n, hn⟩ : ∃ n, n = a.length := ⟨_, rfl⟩
  rw [← hn] at ha hl ⊢
  have Ha := Lib.hid ha; have Hn := Lib.hid hn
  clear ha hn
  go_enter Tryd.func25, Tryd.ntmps25
  go_wp2_with fail
  go_loopw [9] (fun i wr => ∃ k : Nat, k ≤ n ∧ i = .int .i64 k ∧ okL (a.take k) = true ∧ Lib.IsBuilderF 48 5 w.heap.size w.heap.size (b8s (textL (a.take k))) wr ∧ Below w.heap.size w wr ∧ w.heap.size < wr.heap.size)
    (fun i _ => n - (intOf i).toNat)
  case atStart => exact ⟨0, by omega, rfl, rfl, builder_new w, (Below.refl _ w).alloc (Nat.le_refl _) _, by simp⟩
  case round =>
    obtain ⟨k, hk, rfl, hok, hbd, hB, hlt⟩ := hrel
    have Hok := Lib.hid hok; have Hbd := Lib.hid hbd; clear hok hbd
    by_cases hk8 : k < n
    · obtain ⟨b, off, rfl, hb, hcell⟩ := Ha.out.at_ (by omega)
      have hkl : k < a.length := by rw [← Hn.out]; exact hk8
      have hck : wr.cell? ⟨b, off + k, none⟩ = some (.int .i64 (a.getD k 0)) := by
        rw [hB.cell (p := ⟨b, off + k, none⟩) (by show b < _; omega), hcell k (by omega)]; exact ints_at a k hkl
      have Hsn := Lib.hid (take_snocI a k hkl)
      have Hmem := Lib.hid (show a.getD k 0 ∈ a from by simp [hkl])
      have htl := textL_length (a.take k)
      have htk : (a.take k).length ≤ k := by rw [List.length_take]; omega
      clear hcell hkl
      obtain ⟨p, hp⟩ : ∃ p, p = a.getD k 0 := ⟨_, rfl⟩
      rw [← hp] at hck Hsn Hmem
      clear hp
      by_cases h1 : p < 0
      · have t1 : decide (p < 0) = true := by rw [decide_eq_true_eq]; exact h1
        have hno : okL a = false := by
          unfold okL; rw [List.all_eq_false]; exact ⟨p, Hmem.out, by unfold isPt; simp; omega⟩
        have Hno := Lib.hid hno; clear hno
        go_wp2_with fail
        go_ret2
        exact ⟨by unfold makeL makeE; rw [Hno.out]; rfl, hB⟩
      · have t1 : decide (p < 0) = false := by rw [decide_eq_false_iff_not]; exact h1
        by_cases h2 : p > 1114111
        · have t2 : decide (p > 1114111) = true := by rw [decide_eq_true_eq]; exact h2
          have hno : okL a = false := by
            unfold okL; rw [List.all_eq_false]; exact ⟨p, Hmem.out, by unfold isPt; simp; omega⟩
          have Hno := Lib.hid hno; clear hno
          go_wp2_with fail
          go_ret2
          exact ⟨by unfold makeL makeE; rw [Hno.out]; rfl, hB⟩
        · have t2 : decide (p > 1114111) = false := by rw [decide_eq_false_iff_not]; exact h2
          obtain ⟨x, rfl⟩ : ∃ x : Nat, p = x := ⟨p.toNat, by omega⟩
          have H37 := Lib.hid (Tryd.utf8_ValidRune (x : Int) wr)
          rw [valid_pt] at H37
          cases hpt : isPt (x : Int) with
          | false =>
            rw [hpt] at H37
            have hno : okL a = false := by
              unfold okL; rw [List.all_eq_false]; exact ⟨_, Hmem.out, by rw [hpt]; decide⟩
            have Hno := Lib.hid hno; clear hno
            go_wp2_with (go_at_call 37; refine H37.out.mono ?_; rintro e W' ⟨rfl, rfl⟩)
            go_ret2
            exact ⟨by unfold makeL makeE; rw [Hno.out]; rfl, hB⟩
          | true =>
            rw [hpt] at H37
            have hok1 : okL (a.take (k + 1)) = true := by
              rw [Hsn.out]; unfold okL; rw [List.all_append]
              have := Hok.out; unfold okL at this; rw [this]; simp [hpt]
            have e3 : b8s (textL (a.take (k + 1))) = b8s (textL (a.take k)) ++ Lib.runeCells x := by
              rw [Hsn.out, textL_app, b8s_append, enc_one x hpt, textL_cons, textL_nil, List.append_nil, Int.toNat_natCast]
            have Hok1 := Lib.hid hok1; clear hok1
            have HW := Lib.hid (writeRune_any w.heap.size w.heap.size _ x (by omega) (by omega) wr Hbd.out (by rw [b8s_length]; omega) (by omega))
            rw [← e3] at HW
            clear e3
            go_wp2_with (go_at_call 37; refine H37.out.mono ?_; rintro e W' ⟨rfl, rfl⟩)
            refine HW.out.mono ?_
            rintro e w1 ⟨⟨v1, rfl⟩, hb1, hbe1, hk1⟩
            have hs1 := hbe1.size
            go_wp2_with fail
            go_roundw
            case rel => exact ⟨k + 1, by omega, by go_num, Hok1.out, .inr hb1, hB.trans hbe1, by omega⟩
            case measure => simp [intOf]; omega
    · obtain rfl : k = n := by omega
      have hfin : a.take k = a := List.take_of_length_le (by rw [← Hn.out]; exact Nat.le_refl _)
      rw [hfin] at Hok Hbd
      have HS := Lib.hid (Tryd.Builder_String_any_k w.heap.size w.heap.size (textL a) wr Hbd.out hB.size)
      clear hfin
      go_wp2_with fail
      refine HS.out.mono ?_
      rintro e w1 ⟨rfl, _, hb1, _⟩
      go_wp2_with fail
      go_ret2
      exact ⟨by unfold makeL makeE; rw [Hok.out]; rfl, hB.trans hb1⟩
end Go.Proofs.YtpmndnijejnhnaaDoor
