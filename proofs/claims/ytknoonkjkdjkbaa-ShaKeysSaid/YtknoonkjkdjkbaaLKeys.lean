/-
  ShaKeys' walk.
-/
import Derived.Test.YtknoonkjkdjkbaaRKey
namespace Go.Proofs.Ytknoonkjkdjkbaa
open Go.RowKit Go.Shelf

theorem keyBytes_small : ∀ ss : List (List UInt8), (∀ s ∈ ss, s.length ≤ 60) → (keyBytes ss).length ≤ 68 * ss.length
  | [], _ => Nat.le_refl _
  | s :: ss, h => by
    have h1 := h s (by simp)
    have h2 := keyBytes_small ss (fun t ht => h t (by simp [ht]))
    have e : keyBytes (s :: ss) = (be8 s.length ++ s) ++ keyBytes ss := rfl
    rw [e, List.length_append, List.length_append, be8_length, List.length_cons]; omega

set_option maxHeartbeats 2000000 in
theorem shaKeys_any (ss : List (List UInt8)) (A : Option Addr) (cap B : Nat) (w : World) (hp : Rd w B 1 A ss.length (ss.map strV)) (hB0 : B ≤ w.heap.size) (hcap : ss.length ≤ cap) (h63 : cap < 9223372036854775808) (hsb : ∀ s ∈ ss, s.length < 9223372036854775808) :
    Calls Try.prog 5 #[.slice A ss.length cap] w fun e w' => e = .returned (.bool true) ∧ Below w.heap.size w w' := by
  obtain ⟨n, hN⟩ : ∃ n, n = ss.length := ⟨_, rfl⟩
  have Hp := Lib.hid hp; clear hp
  rw [← hN] at hcap Hp ⊢
  have HN := Lib.hid hN; have Hsb := Lib.hid hsb; clear hN hsb
  go_enter Try.func5, Try.ntmps5
  go_wp2_with fail
  refine (first_any w).mono ?_
  rintro e w1 ⟨rfl, b1⟩
  have hs1 := b1.size
  have Hp1 : Hid (Rd w1 B 1 A n (ss.map strV)) := Hp.out.keep (b1.mono hB0)
  by_cases hbig : n > 20
  · have hm : decide ((n : Int) > 20) = true := by rw [decide_eq_true_eq]; omega
    go_wp2_with fail
    go_ret
    exact ⟨rfl, b1⟩
  · have hm : decide ((n : Int) > 20) = false := by rw [decide_eq_false_iff_not]; omega
    go_wp2_with fail
    go_loopw [12] (fun i wr => ∃ k : Nat, k ≤ n ∧ i = .int .i64 k ∧ (∀ j, j < k → (ss.getD j []).length ≤ 60) ∧ wr = w1)
      (fun i _ => n - (intOf i).toNat)
    case atStart => exact ⟨0, by omega, rfl, fun j hj => by omega, rfl⟩
    case round =>
      obtain ⟨k, hk, rfl, hall, rfl⟩ := hrel
      have Hall := Lib.hid hall; clear hall
      by_cases hk8 : k < n
      · obtain ⟨b, off, rfl, hb, hcell⟩ := Hp1.out.at_ (by omega)
        have hkl : k < ss.length := by rw [← HN.out]; exact hk8
        have hck : wr.cell? ⟨b, off + k, none⟩ = some (strV (ss.getD k [])) := by
          rw [hcell k (by omega)]; simp [hkl]
        have hsl : (ss.getD k []).length < 9223372036854775808 := Hsb.out _ (by simp [hkl])
        obtain ⟨s, hs⟩ : ∃ s, s = ss.getD k [] := ⟨_, rfl⟩
        rw [← hs] at hck hsl
        have Hs := Lib.hid hs
        clear hcell hs hkl
        have hck' : wr.cell? ⟨b, off + k, none⟩ = some (.string ⟨s.toArray⟩) := hck
        clear hck
        have hsz : (⟨s.toArray⟩ : ByteArray).size = s.length := by simp [ByteArray.size]
        by_cases h60 : s.length > 60
        · have hq : decide ((s.length : Int) > 60) = true := by rw [decide_eq_true_eq]; omega
          go_wp2_with fail
          go_ret
          exact ⟨rfl, b1⟩
        · have hq : decide ((s.length : Int) > 60) = false := by rw [decide_eq_false_iff_not]; omega
          go_wp2_with fail
          go_roundw
          case rel =>
            refine ⟨k + 1, by omega, by go_num, fun j hj => ?_, by simp⟩
            by_cases hjk : j = k
            · subst hjk; rw [← Hs.out]; omega
            · exact Hall.out j (by omega)
          case measure => simp [intOf]; omega
      · obtain rfl : k = n := by omega
        have h60 : ∀ s ∈ ss, s.length ≤ 60 := by
          intro s hs
          obtain ⟨j, hj, rfl⟩ := List.mem_iff_getElem.1 hs
          have := Hall.out j (by rw [HN.out]; exact hj)
          simpa [hj] using this
        have hkb := keyBytes_small ss h60
        have hk5 : (keyBytes ss).length ≤ 5000 := by rw [← HN.out] at hkb; omega
        have h1 := Lib.hid (key_any ss A cap B wr (by rw [← HN.out]; exact Hp1.out) (by omega) (by rw [← HN.out]; exact hcap) (by rw [← HN.out]; omega) hk5)
        rw [← HN.out] at h1
        obtain ⟨R, hR⟩ : ∃ R, R = hexOf (digest (keyBytes ss)) := ⟨_, rfl⟩
        rw [← hR] at h1
        clear hkb h60
        go_wp2_with fail
        refine h1.out.mono ?_
        rintro e w2 ⟨rfl, b2⟩
        have hs2 := b2.size
        have h2 := Lib.hid (rkey_any ss A cap B w2 (by rw [← HN.out]; exact Hp1.out.keep (b2.mono (by omega))) (by omega) (by rw [← HN.out]; exact hcap) (by rw [← HN.out]; omega) hk5)
        rw [← HN.out, ← hR] at h2
        have HR := Lib.hid hR; clear hR h1
        go_wp2_with fail
        refine h2.out.mono ?_
        rintro e w3 ⟨rfl, b3⟩
        clear h2
        go_wp2_with fail
        go_ret
        exact ⟨rfl, b1.trans ((b2.mono hs1).trans (b3.mono (by omega)))⟩
end Go.Proofs.Ytknoonkjkdjkbaa
