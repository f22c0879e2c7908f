/-
  The reference's Key: the digits of the digest of parts with their lengths.
-/
import Derived.Lib.AppendStr
import Derived.Test.YtknoonkjkdjkbaaRs6
import Derived.Test.YtknoonkjkdjkbaaLHex
namespace Go.Proofs.Ytknoonkjkdjkbaa
open Go.RowKit Go.Shelf

/-- 'out = append(out, s...)' of a text. -/
theorem wpList_appendStr {w : World} {ops : Array Oper} {rest : List Oper} {o : Oper} {a : Act} {Q : Exit → Act → World → Prop} (hgd : o.guard = none) (s x : Operand)
    (ho : o.op = .call { callee := .builtin .append, args := #[s, x], argTypes := #[22, 9] }) (base : Nat)
    (v : Value) (n : Nat) (xs : List Value) (hs : a.eval s = v) (hown : w.ownsRow base 5 1 v n xs) (l : List UInt8) (m : Nat) (hm : m = l.length) (hx : a.eval x = .string ⟨l.toArray⟩)
    (hle : n + m ≤ 140737488355328) (hbase : base ≤ w.heap.size)
    (h : ∀ A' cap w', w'.ownsRow base 5 1 (.slice A' (n + m) cap) (n + m) (xs ++ b8s l) → Below base w w' →
      wpList Try.prog ops Q rest (a.put o.dst (.slice A' (n + m) cap)) w') : wpList Try.prog ops Q (o :: rest) a w := by
  obtain ⟨i0, hi, hz0, hz1, hz2⟩ := info_parts Try.info5
  have hsz : (⟨l.toArray⟩ : ByteArray).size = m := by rw [hm]; simp [ByteArray.size]
  refine Lib.wpList_append_own_string w hgd s x 22 9 ho base 5 i0 Try.underlying22 Try.underlying9 hi hz0 hz1 hz2 v n xs hs hown ⟨l.toArray⟩ hx (by rw [hsz]; unfold maxLen; omega) (by rw [hsz]; exact hle) hbase ?_
  intro v' w' hown' hg _
  rw [hsz] at hown'
  have hc : Lib.strCells ⟨l.toArray⟩ = b8s l := by simp [Lib.strCells, b8s]
  rw [hc] at hown'
  obtain ⟨A', cap', rfl, _, _⟩ := own_form hown'
  exact h A' cap' w' hown' ((Below.refl base w).grown hg hbase (fun k hk => own_size hown k hk))
theorem shr_len (n k : Nat) (h : k < 8) : ((n : Int) / 2 ^ (8 * (7 - k)) % 256) = ((n / 2 ^ (56 - 8 * k) : Nat) : Int) % 256 := by
  rw [show 8 * (7 - k) = 56 - 8 * k from by omega]; simp

set_option maxHeartbeats 2000000 in
theorem rkey_any (ss : List (List UInt8)) (A : Option Addr) (cap B : Nat) (w : World) (hp : Rd w B 1 A ss.length (ss.map strV)) (hB0 : B ≤ w.heap.size) (hcap : ss.length ≤ cap) (hn : ss.length ≤ 100) (hl : (keyBytes ss).length ≤ 5000) :
    Calls Try.prog 13 #[.slice A ss.length cap] w fun e w' => e = .returned (.string ⟨(hexOf (digest (keyBytes ss))).toArray⟩) ∧ Below w.heap.size w w' := by
  obtain ⟨n, hN⟩ : ∃ n, n = ss.length := ⟨_, rfl⟩
  have Hp := Lib.hid hp; clear hp
  rw [← hN] at hcap hn Hp ⊢
  have HN := Lib.hid hN; clear hN
  go_enter Try.func13, Try.ntmps13
  go_wp2_with fail
  go_loopw [3, 9] (fun v i wr => ∃ k m : Nat, k ≤ n ∧ i = .int .i64 k ∧ m = (keyBytes (ss.take k)).length ∧ wr.ownsRow w.heap.size 5 1 v m (b8s (keyBytes (ss.take k))) ∧ Below w.heap.size w wr)
    (fun _ i _ => n - (intOf i).toNat)
  case atStart => exact ⟨0, 0, by omega, rfl, rfl, World.ownsRow_nil _ _ _ _, Below.refl _ _⟩
  case round =>
    obtain ⟨k, m, hk, rfl, hm, hown, hB⟩ := hrel
    obtain ⟨A2, c2, rfl, hc2, _⟩ := own_form hown
    have hbs := hB.size
    have hm5 : m ≤ 5000 := by rw [hm]; exact Nat.le_trans (keyBytes_le ss k) hl
    have Hm := Lib.hid hm; have Hown := Lib.hid hown; clear hm hown
    by_cases hk8 : k < n
    · obtain ⟨b, off, rfl, hb, hcell⟩ := Hp.out.at_ (by omega)
      have hkl : k < ss.length := by rw [← HN.out]; exact hk8
      have hck : wr.cell? ⟨b, off + k, none⟩ = some (strV (ss.getD k [])) := by
        rw [hB.cell (p := ⟨b, off + k, none⟩) (by show b < w.heap.size; omega), hcell k (by omega)]
        simp [hkl]
      have hsn := keyBytes_snoc ss k hkl
      have hle : (keyBytes (ss.take (k + 1))).length ≤ 5000 := Nat.le_trans (keyBytes_le ss _) hl
      have hslen : (ss.getD k []).length ≤ 5000 := by rw [hsn, List.length_append, List.length_append] at hle; omega
      have hlen2 : m + 8 + (ss.getD k []).length ≤ 5000 := by rw [hsn, List.length_append, List.length_append, be8_length, ← Hm.out] at hle; omega
      obtain ⟨s, hs⟩ : ∃ s, s = ss.getD k [] := ⟨_, rfl⟩
      rw [← hs] at hck hsn hslen hlen2
      obtain ⟨L, hL⟩ : ∃ L, L = keyBytes (ss.take k) := ⟨_, rfl⟩
      rw [← hL] at hsn Hm Hown
      have Hsn := Lib.hid hsn
      clear hcell hsn hle hs hkl hL
      have hck' : wr.cell? ⟨b, off + k, none⟩ = some (.string ⟨s.toArray⟩) := hck
      clear hck
      have hsz : (⟨s.toArray⟩ : ByteArray).size = s.length := by simp [ByteArray.size]
      obtain ⟨n0, hn0⟩ : ∃ n0, n0 = s.length := ⟨_, rfl⟩
      rw [← hn0] at hsz hslen hlen2
      have Hn0 := Lib.hid hn0; clear hn0
      have Hsl := Lib.hid hslen
      go_wp2_with fail
      obtain ⟨w1', rfl⟩ : ∃ w1' : World, w1' = wr := ⟨_, rfl⟩
      go_loopw [3, 6] (fun v i wr => ∃ t L' cap : Nat, ∃ A, t ≤ 8 ∧ L' = m + t ∧ i = .int .i64 (7 - (t : Int)) ∧ v = .slice A L' cap ∧ L' ≤ cap ∧ wr.ownsRow w.heap.size 5 1 v L' (b8s (L ++ (be8 n0).take t)) ∧ Below w.heap.size w wr)
        (fun _ i _ => (intOf i + 1).toNat)
      case atStart => exact ⟨0, m, c2, A2, by omega, by omega, rfl, rfl, hc2, by simpa using Hown.out, hB⟩
      case round =>
        obtain ⟨t, L', cap2', A3, ht, hL', rfl, rfl, hc3, hown2, hB2⟩ := hrel
        have hbs2 := hB2.size
        have Hown2 := Lib.hid hown2; clear hown2 Hown hB hbs
        have hL5' : L' ≤ 5200 := by omega
        have HL' := Lib.hid hL'; clear hL'
        by_cases ht8 : t < 8
        · go_wp2_with (at_builtin; refine wpList_push rfl (.tmp 17) (.tmp 25) 22 rfl w.heap.size 5 (.int .u8 0) 1 1 Try.underlying22 Try.info5 rfl (by decide) _ _ _ rfl Hown2.out _ 1 (by decide) rfl rfl rfl (by omega) (by omega) (by omega) ?_; intro g3 cap3 w3 hown3 hg3 hb3; have Hown3 := Lib.hid hown3; clear hown3)
          have e := be8_snoc L n0 t _ ht8 (shr_len n0 t (by omega))
          rw [e] at Hown3
          obtain ⟨_, _, e3, hc4, _⟩ := own_form Hown3.out
          clear e
          go_roundw
          case rel => exact ⟨t + 1, L' + 1, cap3, _, by omega, by have := HL'.out; omega, by go_num, rfl, by injection e3; omega, Hown3.out, hB2.trans hb3⟩
          case measure => simp [intOf]; omega
        · obtain rfl : t = 8 := by omega
          have hlt : L' + n0 ≤ 16000 := by have := Hsl.out; omega
          go_wp2_with (at_builtin; refine wpList_appendStr rfl (.tmp 27) (.tmp 28) rfl w.heap.size _ _ _ rfl Hown2.out s n0 Hn0.out rfl (by omega) (by omega) ?_; intro A5 cap5 w5 hown5 hb5; have Hown5 := Lib.hid hown5; clear hown5)
          have Hfin : Hid (w5.ownsRow w.heap.size 5 1 (.slice A5 (L' + n0) cap5) (L' + n0) (b8s (keyBytes (ss.take (k + 1))))) := by
            have := Hown5.out
            rw [List.take_of_length_le (by rw [be8_length]; omega), ← b8s_append, List.append_assoc, Hn0.out] at this
            rw [Hid, Hsn.out, Hn0.out]; exact this
          have hlen3 : L' + n0 = (keyBytes (ss.take (k + 1))).length := by have := Hfin.out.1; rw [b8s_length] at this; omega
          have Hlen3 := Lib.hid hlen3
          clear hlen3 Hown5 Hown2
          go_roundw
          case rel => exact ⟨k + 1, L' + n0, by omega, by go_num, Hlen3.out, Hfin.out, hB2.trans hb5⟩
          case measure => simp [intOf]; omega
    · obtain rfl : k = n := by omega
      have hfin : keyBytes (ss.take k) = keyBytes ss := by
        rw [List.take_of_length_le (by rw [← HN.out]; exact Nat.le_refl _)]
      rw [hfin] at Hm Hown
      go_wp2_with fail
      have h9 := rsum_any (keyBytes ss) A2 c2 wr.heap.size wr (by rw [← Hm.out]; exact Rd.of_own Hown.out) (Nat.le_refl _) (by rw [← Hm.out]; exact hc2) hl
      rw [← Hm.out] at h9
      refine h9.mono ?_
      rintro e w6 ⟨v6, rfl, o6, b6⟩
      have hdl := digest_length (keyBytes ss)
      rw [Owns8, hdl] at o6
      obtain ⟨A6, c6, rfl, hc6, _⟩ := own_form o6
      have hs6 := b6.size
      have hx := Lib.hid (refHex_any (digest (keyBytes ss)) A6 c6 w6.heap.size w6 (by rw [hdl]; exact Rd.of_own o6) (by rw [hdl]; exact hc6) (by rw [hdl]; decide))
      rw [hdl] at hx
      clear hdl o6 h9
      go_wp2_with fail
      refine hx.out.mono ?_
      rintro e w7 ⟨rfl, q, rfl⟩
      go_wp2_with fail
      go_ret
      exact ⟨rfl, (hB.trans (b6.mono hbs)).trans ⟨rfl, rfl, rfl, Nat.le_refl _, fun _ _ => rfl⟩⟩
end Go.Proofs.Ytknoonkjkdjkbaa
