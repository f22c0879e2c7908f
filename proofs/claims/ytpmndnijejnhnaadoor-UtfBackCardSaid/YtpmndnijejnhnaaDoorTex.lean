/-
  The reference's Text.
-/
import Derived.Lib.BufferRead
import Derived.Test.YtpmndnijejnhnaaDoorTxt
namespace Go.Proofs.YtpmndnijejnhnaaDoor
open Go.RowKit

def textL (l : List Int) : List UInt8 := l.flatMap fun p => oneL p.toNat
theorem oneL_length (p : Nat) : 1 ≤ (oneL p).length ∧ (oneL p).length ≤ 4 := by
  unfold oneL; split
  · simp
  · split
    · simp
    · split <;> simp
theorem textL_snoc (a : List Int) (k : Nat) (h : k < a.length) : textL (a.take (k + 1)) = textL (a.take k) ++ oneL (a.getD k 0).toNat := by
  rw [take_snocI a k h, textL, List.flatMap_append]; simp [textL]
theorem textL_length : ∀ a : List Int, (textL a).length ≤ 4 * a.length
  | [] => Nat.le_refl _
  | p :: a => by
    have h1 := textL_length a
    have h2 := (oneL_length p.toNat).2
    have e : textL (p :: a) = oneL p.toNat ++ textL a := rfl
    rw [e, List.length_append, List.length_cons]; omega
theorem rd_text {w : World} {B : Nat} {A : Option Addr} (t : TypeId) (ht : Tryd.prog.underlying t = some (.slice 5)) (l : List UInt8) (cap : Nat) (h : Rd w B 1 A l.length (b8s l)) : (convert t 9 (.slice A l.length cap)).run Tryd.prog w = .ok (.string ⟨l.toArray⟩) w := by
  by_cases hl : 0 < l.length
  · obtain ⟨b, off, rfl, _, hc⟩ := h.at_ hl
    refine run_convert_bytes_back w t 9 5 ⟨b, off, none⟩ cap l ht Tryd.underlying5 Tryd.underlying9 ?_
    intro j hj
    rw [add_eq, hc j (by omega)]
    simp [b8s, hj]
  · obtain rfl : l = [] := by cases l with | nil => rfl | cons x l => simp at hl
    cases A with
    | none => exact Lib.run_convert_nil_bytes w t 9 5 cap ht Tryd.underlying5 Tryd.underlying9
    | some a => exact run_convert_bytes_back w t 9 5 a cap [] ht Tryd.underlying5 Tryd.underlying9 (fun j hj => by simp at hj)

set_option maxHeartbeats 2000000 in
theorem text_any (a : List Int) (A : Option Addr) (cap B : Nat) (w : World) (ha : Rd w B 1 A a.length (ints a)) (hB0 : B ≤ w.heap.size) (hcap : a.length ≤ cap) (hl : a.length ≤ 20000) (hr : ∀ p ∈ a, 0 ≤ p ∧ p ≤ 1114111) :
    Calls Tryd.prog 22 #[.slice A a.length cap] w fun e w' => e = .returned (.string ⟨(textL a).toArray⟩) ∧ Below w.heap.size w w' := by
  obtain ⟨n, hn⟩ : ∃ n, n = a.length := ⟨_, rfl⟩
  rw [← hn] at ha hcap hl ⊢
  have Ha := Lib.hid ha; have Hn := Lib.hid hn; have Hr := Lib.hid hr
  clear ha hn hr
  go_enter Tryd.func22, Tryd.ntmps22
  go_wp2_with fail
  go_loopw [3, 8] (fun v i wr => ∃ k m : Nat, k ≤ n ∧ i = .int .i64 k ∧ m = (textL (a.take k)).length ∧ wr.ownsRow w.heap.size 5 1 v m (b8s (textL (a.take k))) ∧ Below w.heap.size w wr)
    (fun _ i _ => n - (intOf i).toNat)
  case atStart => exact ⟨0, 0, by omega, rfl, rfl, World.ownsRow_nil _ _ _ _, Below.refl _ _⟩
  case round =>
    obtain ⟨k, m, hk, rfl, hm, hown, hB⟩ := hrel
    obtain ⟨A2, c2, rfl, hc2, _⟩ := own_form hown
    have hbs := hB.size
    have hm4 : m ≤ 80000 := by
      have := textL_length (a.take k); rw [List.length_take] at this; omega
    have Hm := Lib.hid hm; have Hown := Lib.hid hown; clear hm hown
    by_cases hk8 : k < n
    · obtain ⟨b, off, rfl, hb, hcell⟩ := Ha.out.at_ (by omega)
      have hkl : k < a.length := by rw [← Hn.out]; exact hk8
      have hck : wr.cell? ⟨b, off + k, none⟩ = some (.int .i64 (a.getD k 0)) := by
        rw [hB.cell (p := ⟨b, off + k, none⟩) (by show b < w.heap.size; omega), hcell k (by omega)]; exact ints_at a k hkl
      have hpr := Hr.out (a.getD k 0) (by simp [hkl])
      have hsn := textL_snoc a k hkl
      clear hcell hkl
      obtain ⟨p, hp⟩ : ∃ p : Nat, a.getD k 0 = (p : Int) := ⟨(a.getD k 0).toNat, by omega⟩
      rw [hp] at hck hpr hsn
      rw [Int.toNat_natCast] at hsn
      have Hsn := Lib.hid hsn
      have h4 := oneL_length p
      clear hp hsn
      go_wp2_with fail
      refine (one_any p wr (by omega)).mono ?_
      rintro e w1 ⟨v1, rfl, o1, b1⟩
      obtain ⟨A1, c1, rfl, hc1, _⟩ := own_form o1
      have Hrd := Lib.hid (Rd.of_own o1)
      have Hown1 := Lib.hid (own_keep Hown.out b1)
      have Hone := Lib.hid (b8s_one (oneL p))
      have hs1 := b1.size
      have hB1 : Below w.heap.size w w1 := hB.trans (b1.mono hbs)
      obtain ⟨q, hq⟩ : ∃ q, q = (oneL p).length := ⟨_, rfl⟩
      rw [← hq] at Hrd h4 hc1 ⊢
      have Hq := Lib.hid hq
      clear o1 b1 Hown hq
      go_wp2_with (at_builtin; refine wpList_appendRd rfl (.tmp 12) (.tmp 14) 44 rfl w.heap.size 5 (.int .u8 0) 1 1 Tryd.underlying44 (by kernel_rfl) rfl (by decide) _ m _ rfl Hown1.out w1.heap.size A1 q c1 _ rfl Hrd.out Hone.out (by omega) (by omega) (by omega) ?_; intro A6 cap6 w6 hown6 hb6 _; have Hown6 := Lib.hid hown6; clear hown6)
      have Hfin : Hid (w6.ownsRow w.heap.size 5 1 (.slice A6 (m + q) cap6) (m + q) (b8s (textL (a.take (k + 1))))) := by
        rw [Hid, Hsn.out, b8s_append]; exact Hown6.out
      have hlen : m + q = (textL (a.take (k + 1))).length := by rw [Hsn.out, List.length_append, ← Hm.out, ← Hq.out]
      have Hlen := Lib.hid hlen
      clear hlen Hown6
      go_roundw
      case rel => exact ⟨k + 1, m + q, by omega, by go_num, Hlen.out, Hfin.out, hB1.trans hb6⟩
      case measure => simp [intOf]; omega
    · obtain rfl : k = n := by omega
      have hfin : textL (a.take k) = textL a := by rw [List.take_of_length_le (by rw [← Hn.out]; exact Nat.le_refl _)]
      rw [hfin] at Hm Hown
      have hcv := rd_text 44 Tryd.underlying44 (textL a) c2 (by rw [← Hm.out]; exact Rd.of_own Hown.out)
      rw [← Hm.out] at hcv
      have Hfin := Lib.hid hfin
      clear hfin
      go_wp2_with fail
      go_ret
      exact ⟨rfl, hB⟩
end Go.Proofs.YtpmndnijejnhnaaDoor
