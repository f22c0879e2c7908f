/-
  ShaKeys answers true for every input, and leaves its argument as it was.
  No condition.
-/
import Derived.SliceStrings
import Derived.Test.YtknoonkjkdjkbaaRow
import Derived.Test.YtknoonkjkdjkbaaLKeys
namespace Go.Proofs.Ytknoonkjkdjkbaa
open Go.ChangeShapes Go.WideShapes Go.ChangeAt Go.RowKit
open Go.ChangeMaps (open_string shut_string)

theorem strV_of (b : ByteArray) : strV b.data.toList = .string b := by
  cases b; simp [strV]
/-- A slice of texts that came in. -/
theorem strs_rd {w : World} {a : Addr} {len cap : Nat} {ss : List ByteArray} (hl : len ≤ cap) (hz : len ≤ ss.length) (hm : cap ≤ maxLen)
    (hc : ∀ i, i < ss.length → w.cell? (a.add i) = some (.string (ss.getD i ByteArray.empty))) (hs : ∀ s ∈ ss, s.size ≤ maxLen) :
    ∃ l : List (List UInt8), l.length = len ∧ Rd w w.heap.size 1 (some a) len (l.map strV) ∧ (∀ s ∈ l, s.length < 9223372036854775808) ∧ cap < 9223372036854775808 := by
  refine ⟨(ss.take len).map fun b => b.data.toList, by simp; omega, ⟨by simp; omega, fun hn => ?_⟩, ?_, by unfold maxLen at hm; omega⟩
  · obtain ⟨b, off, spot⟩ := a
    have h0 := hc 0 (by omega)
    have hspot : spot = Option.none := by simpa [Addr.add] using World.cell?_spot h0
    subst hspot
    have hb : b < w.heap.size := by
      have h1 : w.cell? ⟨b, off, Option.none⟩ = some (.string (ss.getD 0 ByteArray.empty)) := by simpa [Addr.add] using h0
      rcases Nat.lt_or_ge b w.heap.size with h' | h'
      · exact h'
      · simp [World.cell?, h'] at h1
    refine ⟨b, off, rfl, hb, fun j hj => ?_⟩
    have hjl : j < len := by omega
    have hj' : j < ss.length := by omega
    have h2 := hc j hj'
    rw [add_eq] at h2
    rw [h2]
    simp [hjl, hj', strV_of]
  · intro s hs'
    obtain ⟨b, hb, rfl⟩ := List.mem_map.1 hs'
    have := hs b (List.mem_of_mem_take hb)
    unfold maxLen at this
    have e : b.data.toList.length = b.size := Array.length_toList
    omega

set_option maxRecDepth 100000 in
theorem shaKeys_lifted (os : Os) (started : os.Started) (H : Type) (enc : TypeId × Value → H) :
    ReturnsInHanded {} Try.checked os 5 .any (Rows.shaKeysSpec.pre6 enc Try.prog Try.f5 Rows.shaKeysRow.domain false) (Rows.shaKeysSpec.post enc Try.prog Try.f5 false true false false) := by
  refine returnsInHanded_of_change (C := Try.checked) ownB started (by kernel_rfl) Try.func5
    (ChangeSpec.witness6 (enc := enc) (C := Try.checked) false ⟨#[], #[.slice Option.none 0 0], []⟩ 8 (by kernel_rfl) (by kernel_rfl) (by kernel_rfl) (by kernel_rfl)) ?_
  intro W base args ds gs before hval0 hW hcnd _
  have hval : ∀ (j : Nat) t v, Try.f5.params[j]? = some t → args[j]? = some v → Value.okWide Try.prog W .any base t v := hval0
  have hW' := hW
  obtain ⟨p, q, hA0, hV, rfl, hfz, hnd⟩ := hW
  have hA : DataW.TrodAll enc Try.prog W 0 (fun _ => true) true Try.f5.params.toList args.toList ds p := hA0
  rw [Try.params5] at hA hval
  obtain ⟨v0, vs0, d0, ds0, p0, q0, hargs, rfl, rfl, h0, r0⟩ := trodAll_cons hA
  obtain ⟨rfl, rfl, rfl⟩ := trodAll_nil r0
  obtain rfl : args = #[v0] := by cases args; simp_all
  obtain ⟨rfl, rfl⟩ := trodVars_none hV
  obtain ⟨a0, len0, cap0, rfl⟩ := okWide_slice Try.underlying34 (hval 0 34 v0 rfl rfl)
  have k0 := h0
  have lt0 : ∀ x ∈ p0, x.block < W.heap.size := by obtain ⟨m, hm⟩ := k0; exact DataW.trod_lt m _ _ _ hm
  obtain ⟨l0, hl0, rd0, hs0, hm0, hc0⟩ : ∃ l : List (List UInt8), l.length = len0 ∧ Rd W W.heap.size 1 a0 len0 (l.map strV) ∧ (∀ s ∈ l, s.length < 9223372036854775808) ∧ cap0 < 9223372036854775808 ∧ len0 ≤ cap0 := by
    obtain ⟨fuel, hf⟩ := h0
    rcases open_strings Try.underlying34 Try.underlying9 (by kernel_rfl) hf with ⟨hcs, _⟩ | ⟨x, l, c, ss, hcs, _, hl, hm, hz, _, hcell, hws⟩
    · simp [Value.cells] at hcs
      obtain ⟨rfl, rfl, rfl⟩ := hcs
      exact ⟨[], rfl, Rd.nil, fun s hs => by simp at hs, by decide, Nat.le_refl _⟩
    · simp [Value.cells] at hcs
      obtain ⟨rfl, rfl, rfl⟩ := hcs
      have hz' : ss.length = cap0 := by simpa using hz
      obtain ⟨r, r1, r2, r3, r4⟩ := strs_rd hl (by omega) hm hcell hws
      exact ⟨r, r1, r2, r3, r4, hl⟩
  clear hA0 hval0
  subst hl0
  refine (shaKeys_any l0 a0 cap0 W.heap.size W rd0 (Nat.le_refl _) hc0 hm0 hs0).mono fun e W' ⟨he, bel⟩ => ?_
  subst he
  exact ⟨_, rfl, _, _, _, [], _, [], hW', trodAll_mk1 (shut_bool Try.underlying4 _), (trodAll_cons_mk (Below.trod laidOutAll (by kernel_rfl) (of_decide_eq_true (by kernel_rfl)) k0 bel lt0) trodAll_mk0), rfl, bel.frame _, fun h => by cases h⟩

theorem shaKeys_over : Rows.shaKeysRow.holds Try.pinned (OpenSpec.ofChange Rows.shaKeysSpec) :=
  OpenClaim.holds_of_wide 5 Try.f5 rfl rfl rfl rfl rfl rfl rfl ⟨rfl, rfl, rfl, rfl, rfl⟩ rfl rfl rfl rfl rfl (by kernel_rfl) Try.func5 (by kernel_rfl)
    (of_decide_eq_true (by kernel_rfl)) (by unfold Func.isWrapper; first | (rw [if_pos (by decide +kernel)]; kernel_rfl) | (rw [if_neg (by decide +kernel)]; exact ⟨rfl, rfl⟩))
    (fun os started H enc _ => shaKeys_lifted os started H enc)

/-- THE STATEMENT. -/
theorem shaKeys_proved : Rows.ShaKeysSaid := shaKeys_over
#print axioms shaKeys_proved
end Go.Proofs.Ytknoonkjkdjkbaa
