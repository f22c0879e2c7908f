/-
  The tables of the reference: 8 beginnings, 64 constants; they are the program's own.
-/
import Derived.Test.YtknoonkjkdjkbaaPrim
import Derived.Test.YtknoonkjkdjkbaaBlock
namespace Go.Proofs.Ytknoonkjkdjkbaa
open Go.RowKit

def hTab : S8 := ⟨0x6a09e667, 0xbb67ae85, 0x3c6ef372, 0xa54ff53a, 0x510e527f, 0x9b05688c, 0x1f83d9ab, 0x5be0cd19⟩
def kTab : List (BitVec 32) := [
  0x428a2f98, 0x71374491, 0xb5c0fbcf, 0xe9b5dba5, 0x3956c25b, 0x59f111f1, 0x923f82a4, 0xab1c5ed5,
  0xd807aa98, 0x12835b01, 0x243185be, 0x550c7dc3, 0x72be5d74, 0x80deb1fe, 0x9bdc06a7, 0xc19bf174,
  0xe49b69c1, 0xefbe4786, 0x0fc19dc6, 0x240ca1cc, 0x2de92c6f, 0x4a7484aa, 0x5cb0a9dc, 0x76f988da,
  0x983e5152, 0xa831c66d, 0xb00327c8, 0xbf597fc7, 0xc6e00bf3, 0xd5a79147, 0x06ca6351, 0x14292967,
  0x27b70a85, 0x2e1b2138, 0x4d2c6dfc, 0x53380d13, 0x650a7354, 0x766a0abb, 0x81c2c92e, 0x92722c85,
  0xa2bfe8a1, 0xa81a664b, 0xc24b8b70, 0xc76c51a3, 0xd192e819, 0xd6990624, 0xf40e3585, 0x106aa070,
  0x19a4c116, 0x1e376c08, 0x2748774c, 0x34b0bcb5, 0x391c0cb3, 0x4ed8aa4a, 0x5b9cca4f, 0x682e6ff3,
  0x748f82ee, 0x78a5636f, 0x84c87814, 0x8cc70208, 0x90befffa, 0xa4506ceb, 0xbef9a3f7, 0xc67178f2]
def tab (K deg : Nat) : List (BitVec 32) := (ps K).map fun p => BitVec.ofNat 32 (rootS p deg)
theorem hTab_eq : tab 18 2 = hTab.list := by decide +kernel
theorem kTab_eq : tab 310 3 = kTab := by decide +kernel
theorem len8 : (ps 18).length = 8 := by decide +kernel
theorem len64 : (ps 310).length = 64 := by decide +kernel
theorem len7 : (ps 17).length = 7 := by decide +kernel
theorem len63 : (ps 309).length = 63 := by decide +kernel
theorem ps_mono (k : Nat) : (ps k).length ≤ (ps (k + 1)).length := by
  rw [ps]; cases (ps k).all (fun q => (k + 2) % q != 0) <;> simp
theorem ps_mono' (k d : Nat) : (ps k).length ≤ (ps (k + d)).length := by
  induction d with
  | zero => exact Nat.le_refl _
  | succ d ih => exact Nat.le_trans ih (ps_mono (k + d))
theorem lt8 (k : Nat) (h : k < 18) : (ps k).length < 8 := by
  have := ps_mono' k (17 - k); rw [show k + (17 - k) = 17 from by omega, len7] at this; omega
theorem lt64 (k : Nat) (h : k < 310) : (ps k).length < 64 := by
  have := ps_mono' k (309 - k); rw [show k + (309 - k) = 309 from by omega, len63] at this; omega
theorem ps_lt (k : Nat) : ∀ q ∈ ps k, q < k + 2 := by
  induction k with
  | zero => intro q hq; cases hq
  | succ k ih =>
    intro q hq
    rw [ps] at hq
    cases h : (ps k).all (fun q => (k + 2) % q != 0)
    · rw [h] at hq; have := ih q hq; omega
    · rw [h] at hq
      rcases List.mem_append.1 hq with hq | hq
      · have := ih q hq; omega
      · simp at hq; omega
theorem wv_ofNat (n : Nat) (h : n < 4294967296) : wv (BitVec.ofNat 32 n) = (n : Int) := by
  unfold wv; rw [BitVec.toNat_ofNat]; omega
theorem rootS_lt (p d : Nat) : rootS p d < 4294967296 := Nat.mod_lt _ (by decide)
theorem Try.info43 : (Try.prog.info? 43).map (fun i => (i.zero, i.size, i.bytes)) = some (some (.int .u32 0), 1, 4) := by kernel_rfl
theorem tab_snoc (K deg k : Nat) (h : k < (ps K).length) : w32s ((tab K deg).take (k + 1)) = w32s ((tab K deg).take k) ++ #[Value.int IntKind.u32 (rootS ((ps K).getD k 0) deg : Nat)].toList := by
  have hl : k < (tab K deg).length := by simpa [tab] using h
  rw [List.take_succ_eq_append_getElem hl]
  simp only [w32s, List.map_append, List.map_cons, List.map_nil]
  simp only [tab, List.getElem_map]
  rw [wv_ofNat _ (rootS_lt _ _)]
  simp [h]
theorem ps_getD (K k : Nat) (h : k < (ps K).length) : (u64s (ps K))[k]? = some (.int .u64 ((ps K).getD k 0 : Nat)) := by simp [u64s, h]
theorem ps_small (K k : Nat) (hK : K ≤ 1000) (h : k < (ps K).length) : (ps K).getD k 0 < 2000 := by
  have := ps_lt K ((ps K).getD k 0) (by simp [h]); omega

set_option maxHeartbeats 1000000 in
set_option maxRecDepth 100000 in
theorem tables_any (w : World) : Calls Try.prog 20 #[] w fun e w' => ∃ hv kv, e = .returned (.tuple #[hv, kv]) ∧ w'.ownsRow w.heap.size 43 1 hv 8 (w32s hTab.list) ∧ w'.ownsRow w.heap.size 43 1 kv 64 (w32s kTab) ∧ Below w.heap.size w w' := by
  go_enter Try.func20, Try.ntmps20
  go_wp2_with fail
  refine (primes_any 8 18 _ (by decide) len8 lt8).mono ?_
  rintro e w1 ⟨v1, rfl, o1, b1⟩
  obtain ⟨A1, c1, rfl, hc1, _⟩ := own_form o1
  have O1 := Lib.hid o1; clear o1
  have hs1 := b1.size
  go_wp2_with fail
  go_loopw [2, 10] (fun v i wr => ∃ k : Nat, k ≤ 8 ∧ i = .int .i64 k ∧ wr.ownsRow w1.heap.size 43 1 v k (w32s ((tab 18 2).take k)) ∧ Below w1.heap.size w1 wr) (fun _ i _ => 8 - (intOf i).toNat)
  case atStart => exact ⟨0, by omega, rfl, World.ownsRow_nil _ _ _ _, Below.refl _ _⟩
  case round =>
    obtain ⟨k, hk, rfl, hown, hB⟩ := hrel
    obtain ⟨A, cap, rfl, hcap, _⟩ := own_form hown
    have hbs := hB.size
    by_cases hk8 : k < 8
    · obtain ⟨g1, rfl, hg1, hg1'⟩ := own_some O1.out (by omega)
      have hc : wr.cell? ⟨g1, k, none⟩ = some (.int .u64 ((ps 18).getD k 0 : Nat)) := by
        rw [hB.cell (p := ⟨g1, k, none⟩) hg1', O1.out.cellAt k (by omega)]
        exact ps_getD 18 k (by rw [len8]; exact hk8)
      have hp := ps_small 18 k (by omega) (by rw [len8]; exact hk8)
      have Hn := Lib.hid (tab_snoc 18 2 k (by rw [len8]; exact hk8))
      generalize (ps 18).getD k 0 = p at *
      have Hown := Lib.hid hown; clear hown
      go_wp2_with fail
      refine (root2_any p _ (by omega)).mono ?_
      rintro e w' ⟨rfl, rfl⟩
      go_wp2_with (at_builtin; refine wpList_push rfl (.tmp 14) (.tmp 17) 52 rfl w1.heap.size 43 (.int .u32 0) 1 4 Try.underlying52 Try.info43 rfl (by decide) _ _ _ rfl Hown.out _ 1 (by decide) rfl rfl rfl (by omega) (by omega) (by omega) ?_; intro g2 cap2 w2 hown2 hg2 hb2)
      rw [← Hn.out] at hown2
      go_roundw
      case rel => exact ⟨k + 1, by omega, by go_num, hown2, hB.trans hb2⟩
      case measure => simp [intOf]; omega
    · obtain rfl : k = 8 := by omega
      rw [List.take_of_length_le (by rw [hTab_eq]; decide), hTab_eq] at hown
      have HO : Hid (wr.ownsRow w.heap.size 43 1 (.slice A 8 cap) 8 (w32s hTab.list)) := own_base hown hs1
      have hBw : Below w.heap.size w wr := b1.trans (hB.mono hs1)
      clear hown hB O1
      have e8 : ((8 : Nat) : Int) = 8 := rfl
      go_wp2_with fail
      refine (primes_any 64 310 _ (by decide) len64 lt64).mono ?_
      rintro e w2 ⟨v2, rfl, o2, b2⟩
      obtain ⟨A2, c2, rfl, hc2, _⟩ := own_form o2
      have O2 := Lib.hid o2; clear o2
      have hs2 := b2.size
      have HO2 : Hid (w2.ownsRow w.heap.size 43 1 (.slice A 8 cap) 8 (w32s hTab.list)) := own_keep HO.out b2
      have hBw2 : Below w.heap.size w w2 := hBw.trans (b2.mono hBw.size)
      clear HO hBw
      go_wp2_with fail
      obtain ⟨wo, rfl⟩ : ∃ wo : World, wo = wr := ⟨_, rfl⟩
      go_loopw [3, 22] (fun v i wr => ∃ k : Nat, k ≤ 64 ∧ i = .int .i64 k ∧ wr.ownsRow w2.heap.size 43 1 v k (w32s ((tab 310 3).take k)) ∧ Below w2.heap.size w2 wr) (fun _ i _ => 64 - (intOf i).toNat)
      case atStart => exact ⟨0, by omega, rfl, World.ownsRow_nil _ _ _ _, Below.refl _ _⟩
      case round =>
        obtain ⟨k, hk, rfl, hown, hB⟩ := hrel
        obtain ⟨A', cap', rfl, hcap', _⟩ := own_form hown
        have hbs2 := hB.size
        by_cases hk64 : k < 64
        · obtain ⟨g1, rfl, hg1, hg1'⟩ := own_some O2.out (by omega)
          have hc : wr.cell? ⟨g1, k, none⟩ = some (.int .u64 ((ps 310).getD k 0 : Nat)) := by
            rw [hB.cell (p := ⟨g1, k, none⟩) hg1', O2.out.cellAt k (by omega)]
            exact ps_getD 310 k (by rw [len64]; exact hk64)
          have hp := ps_small 310 k (by omega) (by rw [len64]; exact hk64)
          have Hn := Lib.hid (tab_snoc 310 3 k (by rw [len64]; exact hk64))
          generalize (ps 310).getD k 0 = p at *
          have Hown := Lib.hid hown; clear hown
          go_wp2_with fail
          refine (root3_any p _ (by omega)).mono ?_
          rintro e w' ⟨rfl, rfl⟩
          go_wp2_with (at_builtin; refine wpList_push rfl (.tmp 26) (.tmp 29) 52 rfl w2.heap.size 43 (.int .u32 0) 1 4 Try.underlying52 Try.info43 rfl (by decide) _ _ _ rfl Hown.out _ 1 (by decide) rfl rfl rfl (by omega) (by omega) (by omega) ?_; intro g3 cap3 w3 hown3 hg3 hb3)
          rw [← Hn.out] at hown3
          go_roundw
          case rel => exact ⟨k + 1, by omega, by go_num, hown3, hB.trans hb3⟩
          case measure => simp [intOf]; omega
        · obtain rfl : k = 64 := by omega
          rw [List.take_of_length_le (by rw [kTab_eq]; decide), kTab_eq] at hown
          have HO := Lib.hid hown; clear hown
          go_wp2_with fail
          go_ret2
          exact ⟨_, _, rfl, own_keep HO2.out (hB.mono (Nat.le_refl _)), own_base HO.out hBw2.size, hBw2.trans (hB.mono hBw2.size)⟩
end Go.Proofs.Ytknoonkjkdjkbaa
