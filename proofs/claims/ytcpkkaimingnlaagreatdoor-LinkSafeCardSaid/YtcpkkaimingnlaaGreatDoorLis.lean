/-
  strings.IndexAny of a short text, whatever its bytes, for a few ASCII bytes.
-/
import Derived.Test.YtcpkkaimingnlaaGreatDoorLdh
import Derived.Lib.IndexAny
namespace Go.Proofs.YtcpkkaimingnlaaGreatDoor
open Go.RowKit

theorem noAny_skip {l cs : Bs} {i k : Nat} (h : Lib.NoAny l cs i) (hcs : ∀ x ∈ cs, x.toNat < 128) (hk : ∀ j, j < k → 128 ≤ (l.getD (i + j) 0).toNat) : Lib.NoAny l cs (i + k) := by
  intro j b hj hb
  rcases Nat.lt_or_ge j i with hji | hji
  · exact h j b hji hb
  · have := hk (j - i) (by omega)
    rw [show i + (j - i) = j by omega] at this
    have e : l.getD j 0 = b := by simp [hb]
    rw [e] at this
    cases hc : cs.contains b with
    | false => rfl
    | true =>
      have := hcs b (by simpa using hc)
      omega
set_option maxHeartbeats 8000000 in
set_option maxRecDepth 1000000 in
theorem ixany_short (l cs : Bs) (hcs : ∀ x ∈ cs, x.toNat < 128) (h2 : 2 ≤ cs.length) (h8 : l.length ≤ 8) (w : World) :
    Calls Tryz.prog 40 #[.string (bs l), .string (bs cs)] w fun e w' => e = .returned (.int .i64 (Lib.indexAny l cs)) ∧ Below w.heap.size w w' := by
  have hemp : (bs cs).toList.isEmpty = false := by
    rw [bs_toList]
    cases cs with
    | nil => simp at h2
    | cons _ _ => rfl
  have hsz := bs_size l
  have hcz := bs_size cs
  have hn1 : (((bs cs).size : Int) == 1) = false := beq_eq_false_iff_ne.2 (by omega)
  have h8z : decide ((8 : Int) < ((bs l).size : Int)) = false := decide_eq_false (by omega)
  have hdec := fun i (hi : i < l.length) (hx : (l.getD i 0).toNat < 128) => (show Utf8.decode (bs l) i = ((l.getD i 0).toNat, 1) by
    have hi' : i < (bs l).size := by rw [hsz]; exact hi
    have e : (bs l)[i]'hi' = l.getD i 0 := by
      show l.toArray[i]'_ = _
      first | (simp [hi]; done) | (simp [hi]; rfl)
    rw [← e] at hx ⊢
    exact decode_ascii _ _ hi' hx)
  have hhi := dec_high l
  have hidx : ∀ x : UInt8, ((x.toNat : Int)).toNat.toUInt8 = x := by intro x; simp
  have hir := fun x h1 h2 h3 W => ir_any cs hcs x h1 h2 h3 W
  have hia := fun (r : Int) (W : World) h0 h1 => Tryz.strings_IndexRune_ascii (bs cs) r W h0 h1
  have hbl : (bs cs).data.toList = cs := by simp [bs]
  have Hdec := Lib.hid hdec; have Hhi := Lib.hid hhi; have Hidx := Lib.hid hidx; have Hir := Lib.hid hir; have Hia := Lib.hid hia; have Hcs := Lib.hid hcs; have Hbl := Lib.hid hbl
  clear hdec hhi hidx hir hia hcs hbl
  obtain ⟨S, hS⟩ : ∃ S, S = bs l := ⟨_, rfl⟩
  obtain ⟨C, hC⟩ : ∃ C, C = bs cs := ⟨_, rfl⟩
  rw [← hS] at hsz h8z Hdec Hhi ⊢
  rw [← hC] at hcz hn1 hemp Hir Hia Hbl ⊢
  obtain ⟨n, hn⟩ : ∃ n, n = l.length := ⟨_, rfl⟩
  rw [← hn] at hsz Hdec Hhi h8
  have Hsz := Lib.hid hsz; have Hn := Lib.hid hn
  clear hS hC hsz hcz hn h2
  go_enter Tryz.func40, Tryz.ntmps40
  go_wp2_with (go_at_call 80; refine (Tryz.strings_shouldUseASCIISet _ _).mono ?_; rintro e w' ⟨rfl, hw⟩; rw [hw, h8z])
  go_loopw [9, 10] (fun _ _ wr => ∃ m : Nat, m ≤ n ∧ wr.heap[w.heap.size]? = some (.stringIter S m) ∧ Below w.heap.size w wr ∧ Lib.NoAny l cs m)
    (fun _ _ wr => n - wr.iterPos w.heap.size)
  case atStart => exact ⟨0, by omega, World.iter_heap w S 0, (Below.refl _ w).alloc (Nat.le_refl _) _, Lib.NoAny.zero _ _⟩
  case round =>
    obtain ⟨m, hm, hit, hB, hno⟩ := hrel
    have hip : wr.iterPos w.heap.size = m := by unfold World.iterPos; rw [hit]
    have Hip := Lib.hid hip
    have HN := Lib.hid hno
    clear hip hno
    by_cases hmn : m < n
    · have hnx := fun ty => Lib.run_next_any_at (P := Tryz.prog) wr w.heap.size S m ty hit (by rw [Hsz.out]; exact hmn)
      by_cases hx : (l.getD m 0).toNat < 128
      · have hd := Hdec.out m hmn hx
        obtain ⟨b, hb⟩ : ∃ b, b = l.getD m 0 := ⟨_, rfl⟩
        rw [← hb] at hd hx
        rw [hd] at hnx
        dsimp only at hnx
        obtain ⟨W, hW⟩ : ∃ W, W = wr.iterAt w.heap.size S (m + 1) := ⟨_, rfl⟩
        rw [← hW] at hnx
        have hitW : W.heap[w.heap.size]? = some (.stringIter S (m + 1)) := by rw [hW]; exact Lib.iterAt_heap _ _ _ _ _ hit
        have hBW : Below w.heap.size w W := by rw [hW]; exact Lib.below_iterAt hB (Nat.le_refl _) _ _
        have hipW : W.iterPos w.heap.size = m + 1 := by unfold World.iterPos; rw [hitW]
        have HipW := Lib.hid hipW
        have hbl : l[m]? = some b := by
          rw [hb]
          have : m < l.length := by rw [← Hn.out]; exact hmn
          simp [this]
        have HBl := Lib.hid hbl
        clear hW hit hipW hd hbl hb
        have hcon := Lib.contains_iff_indexByte cs b
        cases hin : cs.contains b
        · rw [hin] at hcon
          have hlt : ¬ ((0 : Int) ≤ Lib.indexByte cs b) := of_decide_eq_false hcon.symm
          have HIN := Lib.hid hin
          clear hcon hin
          go_wp2_with (go_at_call 79; refine (Hia.out _ _ (by omega) (by omega)).mono ?_; rintro e w' ⟨rfl, hw⟩; rw [hw, Hbl.out, Hidx.out])
          go_roundw
          case rel => exact ⟨m + 1, by omega, hitW, hBW, HN.out.succ HBl.out HIN.out⟩
          case measure => rw [Hip.out, HipW.out]; omega
        · rw [hin] at hcon
          have hge : (0 : Int) ≤ Lib.indexByte cs b := of_decide_eq_true hcon.symm
          have HIN := Lib.hid hin
          clear hcon hin
          go_wp2_with (go_at_call 79; refine (Hia.out _ _ (by omega) (by omega)).mono ?_; rintro e w' ⟨rfl, hw⟩; rw [hw, Hbl.out, Hidx.out])
          go_ret
          exact ⟨by rw [Lib.indexAny_hit HN.out HBl.out HIN.out]; rfl, hBW⟩
      · obtain ⟨r, k, hd, h1, h2, hv, hk1, hk2, hk3⟩ := Hhi.out m hmn (by omega)
        have HN2 := Lib.hid (noAny_skip HN.out Hcs.out hk3)
        clear hk3 hx
        rw [hd] at hnx
        dsimp only at hnx
        obtain ⟨W, hW⟩ : ∃ W, W = wr.iterAt w.heap.size S (m + k) := ⟨_, rfl⟩
        rw [← hW] at hnx
        have hitW : W.heap[w.heap.size]? = some (.stringIter S (m + k)) := by rw [hW]; exact Lib.iterAt_heap _ _ _ _ _ hit
        have hBW : Below w.heap.size w W := by rw [hW]; exact Lib.below_iterAt hB (Nat.le_refl _) _ _
        have hlt : w.heap.size < W.heap.size := by
          rcases Nat.lt_or_ge w.heap.size W.heap.size with h | h
          · exact h
          · rw [Array.getElem?_eq_none h] at hitW; cases hitW
        have hW2 : ∀ W2, Below W.heap.size W W2 → W2.heap[w.heap.size]? = some (.stringIter S (m + k)) ∧ Below w.heap.size w W2 ∧ W2.iterPos w.heap.size = m + k := by
          intro W2 hb
          have e : W2.heap[w.heap.size]? = some (.stringIter S (m + k)) := (hb.block _ hlt).trans hitW
          exact ⟨e, hBW.trans (hb.mono (by omega)), by unfold World.iterPos; rw [e]⟩
        have HW2 := Lib.hid hW2
        have H79 := Lib.hid (Hir.out r h1 h2 hv W)
        clear hW hit hd hW2 hitW hBW hlt hv
        go_wp2_with (go_at_call 79; refine H79.out.mono ?_; rintro e w' ⟨rfl, hw⟩; have HX := Lib.hid (HW2.out w' hw); clear hw)
        go_roundw
        case rel => exact ⟨m + k, by omega, HX.out.1, HX.out.2.1, HN2.out⟩
        case measure => rw [Hip.out, HX.out.2.2]; omega
    · obtain rfl : m = n := by omega
      have hnx := fun ty => Lib.run_next_end_at (P := Tryz.prog) wr w.heap.size S m ty hit (by rw [Hsz.out]; exact hmn)
      go_wp2_with fail
      go_ret
      exact ⟨by rw [Lib.indexAny_none (by rw [← Hn.out]; exact HN.out)]; rfl, hB⟩
end Go.Proofs.YtcpkkaimingnlaaGreatDoor
