/-
  Parts one behind the other: slices.Concat and slices.Grow at bytes.
-/
import Derived.Test.YtknoonkjkdjkbaaByt
import Derived.Lib.AppendZeros
namespace Go.Proofs.Ytknoonkjkdjkbaa
open Go.RowKit

theorem grow_any (n : Nat) (w : World) (hn : n ≤ 1000000) :
    Calls Try.prog 22 #[.slice none 0 0, .int .i64 n] w fun e w' => ∃ v, e = .returned v ∧ w'.ownsRow w.heap.size 5 1 v 0 [] ∧ Below w.heap.size w w' := by
  obtain ⟨i0, hi, hz0, hz1, hz2⟩ := info_parts Try.info5
  by_cases h0 : n = 0
  · subst h0
    go_enter Try.func22, Try.ntmps22
    go_wp2_with fail
    go_ret
    exact ⟨_, rfl, World.ownsRow_nil _ _ _ _, Below.refl _ _⟩
  · have hp : 0 < n := by omega
    have hr := Lib.run_append_nil_zeros (P := Try.prog) w 22 3 22 5 i0 (.int .u8 0) .i64 .i64 Try.underlying22 Try.underlying3 hi hz0 n hp (by omega) (by omega) (by rw [hz2]; omega)
    have hge := grownCap_ge w n 0 5
    have hle := grownCap_le_maxLen w n 0 5 (by unfold maxLen; omega)
    have Hr := Lib.hid hr; clear hr
    go_enter Try.func22, Try.ntmps22
    go_wp2_with (at_builtin; refine Lib.wpList_append_run _ rfl _ _ _ _ rfl _ _ rfl rfl _ _ Hr.out ?_)
    go_ret
    refine ⟨_, rfl, ?_, ?_⟩
    · exact World.ownsRow_made w.drew _ (grownCap w n 0 5) (Nat.le_refl _) hle (by simp [size_zeroCells]; omega)
    · exact ((Below.refl _ w).drew).alloc (Nat.le_refl _) _

structure Part where
  at_ : Option Addr
  cap : Nat
  bytes : List UInt8
def Part.val (p : Part) : Value := .slice p.at_ p.bytes.length p.cap
def Part.ok (w : World) (B : Nat) (p : Part) : Prop := Rd w B 1 p.at_ p.bytes.length (b8s p.bytes) ∧ p.bytes.length ≤ p.cap
def allBytes (ps : List Part) : List UInt8 := ps.flatMap Part.bytes
theorem allBytes_snoc (ps : List Part) (k : Nat) (h : k < ps.length) : allBytes (ps.take (k + 1)) = allBytes (ps.take k) ++ ps[k].bytes := by
  rw [List.take_succ_eq_append_getElem h, allBytes, List.flatMap_append]
  simp [allBytes]
theorem allBytes_le (ps : List Part) (k : Nat) : (allBytes (ps.take k)).length ≤ (allBytes ps).length := by
  have : allBytes ps = allBytes (ps.take k) ++ allBytes (ps.drop k) := by rw [allBytes, allBytes, allBytes, ← List.flatMap_append, List.take_append_drop]
  rw [this, List.length_append]; omega
def partsAt (w : World) (B : Nat) (A : Option Addr) (ps : List Part) : Prop := Rd w B 1 A ps.length (ps.map Part.val) ∧ ∀ p ∈ ps, p.ok w B

set_option maxHeartbeats 1000000 in
theorem concat_any (ps : List Part) (A : Option Addr) (cap B : Nat) (w : World) (hp : partsAt w B A ps) (hB0 : B ≤ w.heap.size) (hcap : ps.length ≤ cap) (hn : ps.length ≤ 1000) (hl : (allBytes ps).length ≤ 100000) :
    Calls Try.prog 14 #[.slice A ps.length cap] w fun e w' => ∃ v, e = .returned v ∧ w'.ownsRow w.heap.size 5 1 v (allBytes ps).length (b8s (allBytes ps)) ∧ Below w.heap.size w w' := by
  obtain ⟨n, hN⟩ : ∃ n, n = ps.length := ⟨_, rfl⟩
  have Hp := Lib.hid hp; clear hp
  rw [← hN] at hcap hn ⊢
  have HN := Lib.hid hN; clear hN
  go_enter Try.func14, Try.ntmps14
  go_wp2_with fail
  go_loop [3, 11] (fun s i => ∃ k : Nat, k ≤ n ∧ i = .int .i64 k ∧ s = .int .i64 (allBytes (ps.take k)).length) (fun _ i => n - (intOf i).toNat)
  case atStart => exact ⟨0, by omega, rfl, rfl⟩
  case round =>
    obtain ⟨k, hk, rfl, rfl⟩ := hrel
    have hle := allBytes_le ps k
    by_cases hkn : k < n
    · obtain ⟨b, off, rfl, hb, hc⟩ := Hp.out.1.at_ (by have := HN.out; omega)
      have hkl : k < ps.length := by rw [← HN.out]; exact hkn
      have hck : w.cell? ⟨b, off + k, none⟩ = some (.slice ps[k].at_ ps[k].bytes.length ps[k].cap) := by rw [hc k (by omega)]; simp [hkl, Part.val]
      have Hs : Hid ((allBytes (ps.take (k + 1))).length = (allBytes (ps.take k)).length + ps[k].bytes.length) := by rw [Hid, allBytes_snoc ps k hkl, List.length_append]
      have hle2 : (allBytes (ps.take k)).length + ps[k].bytes.length ≤ 100000 := by have := allBytes_le ps (k + 1); have := Hs.out; omega
      clear hc
      generalize ps[k] = p at *
      generalize (allBytes (ps.take k)).length = s at *
      generalize p.bytes.length = m at *
      go_wp2_with fail
      go_round
      case rel => exact ⟨k + 1, by omega, by go_num, by rw [Hs.out]; go_num⟩
      case measure => simp [intOf]; omega
    · obtain rfl : k = n := by omega
      have Ht : Hid (ps.take k = ps) := by rw [Hid, HN.out, List.take_length]
      rw [Ht.out]
      rw [Ht.out] at hle
      go_wp2_with fail
      refine (grow_any _ _ (by omega)).mono ?_
      rintro e w1 ⟨v1, rfl, o1, b1⟩
      have hs1 := b1.size
      obtain ⟨A1, c1, rfl, _, _⟩ := own_form o1
      have O1 := Lib.hid o1; clear o1
      go_wp2_with fail
      go_loopw [6, 27] (fun v i wr => ∃ j m c : Nat, ∃ A', j ≤ k ∧ i = .int .i64 j ∧ m = (allBytes (ps.take j)).length ∧ v = .slice A' m c ∧ wr.ownsRow w.heap.size 5 1 v m (b8s (allBytes (ps.take j))) ∧ Below w.heap.size w wr) (fun _ i _ => k - (intOf i).toNat)
      case atStart => exact ⟨0, 0, c1, A1, by omega, rfl, rfl, rfl, O1.out, b1⟩
      case round =>
        obtain ⟨j, m, c, A', hj, rfl, hm, rfl, hown, hB⟩ := hrel
        have hbs := hB.size
        have Hown := Lib.hid hown; clear hown O1
        by_cases hjk : j < k
        · obtain ⟨b, off, rfl, hb, hc⟩ := Hp.out.1.at_ (by have := HN.out; omega)
          have hkl : j < ps.length := by rw [← HN.out]; exact hjk
          have hck : wr.cell? ⟨b, off + j, none⟩ = some (.slice ps[j].at_ ps[j].bytes.length ps[j].cap) := by
            rw [hB.cell (p := ⟨b, off + j, none⟩) (by dsimp only; omega), hc j (by omega)]; simp [hkl, Part.val]
          have hok := Hp.out.2 ps[j] (List.getElem_mem hkl)
          have Hs : Hid (allBytes (ps.take (j + 1)) = allBytes (ps.take j) ++ ps[j].bytes) := allBytes_snoc ps j hkl
          have hle2 : m + ps[j].bytes.length ≤ 100000 := by have h1 := allBytes_le ps (j + 1); rw [Hs.out, List.length_append] at h1; omega
          clear hc
          generalize ps[j] = p at *
          have Hrd : Hid (Rd wr w.heap.size 1 p.at_ p.bytes.length (b8s p.bytes)) := (hok.1.more hB0).keep hB
          have Hm := Lib.hid hm; clear hm hok
          have Hone := Lib.hid (b8s_one p.bytes)
          obtain ⟨q, hq⟩ : ∃ q, q = p.bytes.length := ⟨_, rfl⟩
          rw [← hq] at hck hle2 Hrd
          have Hq := Lib.hid hq; clear hq
          go_wp2_with (at_builtin; refine wpList_appendRd rfl (.tmp 31) (.tmp 32) 22 rfl w.heap.size 5 (.int .u8 0) 1 1 Try.underlying22 Try.info5 rfl (by decide) _ m (b8s (allBytes (ps.take j))) rfl Hown.out w.heap.size p.at_ q p.cap (b8s p.bytes) rfl Hrd.out Hone.out (by omega) (by omega) hbs ?_; intro A2 cap2 w2 hown2 hb2 _; have Hown2 := Lib.hid hown2; clear hown2)
          rw [← b8s_append, ← Hs.out] at Hown2
          go_roundw
          case rel => exact ⟨j + 1, m + q, cap2, A2, by omega, by go_num, by rw [Hs.out, List.length_append, ← Hm.out, ← Hq.out], rfl, Hown2.out, hB.trans hb2⟩
          case measure => simp [intOf]; omega
        · obtain rfl : j = k := by omega
          rw [Ht.out] at hm
          have Ho : Hid (wr.ownsRow w.heap.size 5 1 (.slice A' m c) m (b8s (allBytes ps))) := by have := Hown.out; rw [Ht.out] at this; exact this
          have Hm := Lib.hid hm; clear hm Hown
          go_wp2_with fail
          go_ret
          exact ⟨_, rfl, by rw [← Hm.out]; exact Ho.out, hB⟩
end Go.Proofs.Ytknoonkjkdjkbaa
