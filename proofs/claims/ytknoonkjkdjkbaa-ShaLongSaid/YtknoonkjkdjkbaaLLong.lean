/-
  ShaLong's walk.
-/
import Derived.Test.YtknoonkjkdjkbaaRs6
import Derived.Test.YtknoonkjkdjkbaaLHex
namespace Go.Proofs.Ytknoonkjkdjkbaa
open Go.RowKit Go.Shelf

theorem rep_snoc (c : UInt8) (k : Nat) : b8s (List.replicate k c) ++ #[Value.int IntKind.u8 ((c.toNat : Nat) : Int)].toList = b8s (List.replicate (k + 1) c) := by
  rw [b8s_snoc _ c _ rfl, List.replicate_succ']

set_option maxHeartbeats 4000000 in
set_option maxRecDepth 100000 in
theorem shaLong_any (c : UInt8) (n : Nat) (w : World) (_hn : n < 65536) :
    Calls Try.prog 4 #[.int .u8 ((c.toNat : Nat) : Int), .int .u16 (n : Int)] w fun e w' => e = .returned (.bool true) ∧ Below w.heap.size w w' := by
  obtain ⟨m, hm⟩ : ∃ m, m = n % 700 := ⟨_, rfl⟩
  have hm7 : m < 700 := by omega
  have htm : (n : Int).tmod 700 = (m : Int) := by rw [hm]; rfl
  have hmod : (n : Int) % 700 = (m : Int) := by rw [hm]; rfl
  have Hm := Lib.hid hm; clear hm
  have hrep := rep_snoc c
  have hc256 : c.toNat < 256 := c.toNat_lt
  go_enter Try.func4, Try.ntmps4
  go_wp2_with fail
  refine (first_any w).mono ?_
  rintro e w1 ⟨rfl, b1⟩
  have hs1 := b1.size
  go_wp2_with fail
  go_loopw [5, 11] (fun v i wr => ∃ k : Nat, k ≤ m ∧ i = .int .u16 k ∧ wr.ownsRow w1.heap.size 5 1 v k (b8s (List.replicate k c)) ∧ Below w1.heap.size w1 wr)
    (fun _ i _ => m - (intOf i).toNat)
  case atStart => exact ⟨0, by omega, rfl, World.ownsRow_nil _ _ _ _, Below.refl _ _⟩
  case round =>
    obtain ⟨k, hk, rfl, hown, hB⟩ := hrel
    obtain ⟨A2, c2, rfl, hc2, _⟩ := own_form hown
    have Hown := Lib.hid hown; have hbs := hB.size; clear hown
    by_cases hk8 : k < m
    · have l1 : (k : Int) < (m : Int) := by omega
      go_wp2_with (at_builtin; refine wpList_push rfl (.tmp 13) (.tmp 15) 22 rfl w1.heap.size 5 (.int .u8 0) 1 1 Try.underlying22 Try.info5 rfl (by decide) _ _ _ rfl Hown.out _ 1 (by decide) rfl rfl rfl (by omega) (by omega) (by omega) ?_; intro g4 cap4 w4 hown4 hg4 hb4; rw [hrep] at hown4; have Hown4 := Lib.hid hown4; clear hown4)
      go_roundw
      case rel => exact ⟨k + 1, by omega, by go_num, Hown4.out, hB.trans hb4⟩
      case measure => simp [intOf]; omega
    · obtain rfl : k = m := by omega
      clear hrep
      go_wp2_with fail
      obtain ⟨l, hl⟩ : ∃ l, l = List.replicate k c := ⟨_, rfl⟩
      have hll : l.length = k := by rw [hl]; simp
      have Hown2 : Hid (wr.ownsRow w1.heap.size 5 1 (.slice A2 k c2) k (b8s l)) := by rw [hl]; exact Hown.out
      have hrd : Rd wr wr.heap.size 1 A2 l.length (b8s l) := by rw [hll]; exact Rd.of_own Hown2.out
      clear hl Hown
      have Hll := Lib.hid hll
      obtain ⟨hp4, bW4, hsW4⟩ := partsAt_list wr [⟨A2, c2, l⟩] (by
        intro p hp
        simp only [List.mem_cons, List.not_mem_nil, or_false] at hp
        subst hp
        exact ⟨hrd, by show l.length ≤ c2; omega⟩)
      have hval : [(⟨A2, c2, l⟩ : Part)].map Part.val = [.slice A2 k c2] := by
        simp only [List.map_cons, List.map_nil, Part.val, hll]
      rw [hval] at hp4 bW4 hsW4
      obtain ⟨W4, hW4⟩ : ∃ W4, W4 = wr.alloc (.cells [Value.slice A2 k c2].toArray 22) := ⟨_, rfl⟩
      rw [← hW4] at hp4 bW4 hsW4
      have hall : allBytes [(⟨A2, c2, l⟩ : Part)] = l := by simp [allBytes]
      have HX := Lib.hid (sum_any _ _ 1 _ W4 hp4 (Nat.le_refl _) (Nat.le_refl 1) (by show 1 ≤ 1000; decide) (by rw [hall]; omega))
      rw [hall] at HX
      clear hll
      obtain ⟨D, hD⟩ : ∃ D, D = digest l := ⟨_, rfl⟩
      have hDl : D.length = 32 := by rw [hD]; exact digest_length _
      rw [← hD] at HX
      have HD := Lib.hid hD; have HDl := Lib.hid hDl
      refine calls_at (w1 := W4) hW4.symm ?_
      clear hW4 hp4 hall hval hD hDl
      refine HX.out.mono ?_
      rintro e w5 ⟨rfl, b5⟩
      have hs5 := b5.size
      have B5 : Below wr.heap.size wr w5 := bW4.trans (b5.mono (by omega))
      clear HX b5 bW4
      have h32 : (b8s D).toArray.size = 32 := by simp [b8s, HDl.out]
      go_wp2_with (first
        | refine wpList_store_row rfl 26 (.tmp 6) (.tmp 20) rfl w5.heap.size (b8s D).toArray rfl rfl 26 (List.replicate 32 (.int .u8 0)).toArray (by exact blk_new w5 26 (List.replicate 32 (.int .u8 0)).toArray) (by rw [h32]; kernel_rfl) (by rw [h32]; simp) (b8s_all D) ?_)
      obtain ⟨W6, hW6⟩ : ∃ W6, W6 = (w5.alloc (.cells (List.replicate 32 (.int .u8 0)).toArray 26)).setRow w5.heap.size (b8s D).toArray := ⟨_, rfl⟩
      have hg6 : W6.heap[w5.heap.size]? = some (.cells (b8s D).toArray 26 (0, 0)) := by rw [hW6]; exact row_laid w5 _ _ 26
      have B6 : Below wr.heap.size wr W6 := by
        rw [hW6]; exact below_setRow (B5.trans ((Below.refl _ w5).alloc B5.size _)) B5.size _
      have hs6 : W6.heap.size = w5.heap.size + 1 := by rw [hW6]; simp
      have Hrd6 : Hid (Rd W6 wr.heap.size 1 A2 l.length (b8s l)) := hrd.keep B6
      have Hown6 : Hid (W6.ownsRow w1.heap.size 5 1 (.slice A2 k c2) k (b8s l)) := own_keep Hown2.out B6
      have hcv : ∀ W : World, W.heap[w5.heap.size]? = some (.cells (b8s D).toArray 26 (0, 0)) → (convert 22 9 (.slice (some ⟨w5.heap.size, 0, none⟩) 32 32)).run Try.prog W = .ok (.string ⟨D.toArray⟩) W := by
        intro W hW
        have := rd_string (w := W) (B := w5.heap.size + 1) (A := some ⟨w5.heap.size, 0, none⟩) D 32 (rd_row hW (by omega) (by simp [b8s]))
        rw [HDl.out] at this; exact this
      refine wp_world (w1 := W6) (by rw [hW6]; rfl) ?_
      clear hW6 hrd Hown2 B5
      have hs60 := B6.size
      have hg6d : W6.drew.heap[w5.heap.size]? = some (.cells (b8s D).toArray 26 (0, 0)) := hg6
      have hkl : k = l.length := Hll.out.symm
      have call9 : ∀ W : World, W = W6.drew → Calls Try.prog 9 #[.slice A2 k c2] W fun e w' => ∃ A9 c9, e = .returned (.slice A9 32 c9) ∧ (convert 22 9 (.slice A9 32 c9)).run Try.prog w' = .ok (.string ⟨D.toArray⟩) w' ∧ Below W6.heap.size W6 w' := by
        rintro W rfl
        have h9 := rsum_any l A2 c2 wr.heap.size W6.drew (by exact Hrd6.out) hs60 (by omega) (by omega)
        rw [← hkl, ← HD.out] at h9
        refine h9.mono ?_
        rintro e w9 ⟨v, rfl, ho, hb⟩
        rw [Owns8, HDl.out] at ho
        obtain ⟨A9, c9, rfl, _, _⟩ := own_form ho
        refine ⟨A9, c9, rfl, ?_, (Below.refl _ W6).drew.trans hb⟩
        have := rd_string (w := w9) (A := A9) D c9 (by rw [HDl.out]; exact Rd.of_own ho)
        rw [HDl.out] at this; exact this
      have hkeep : ∀ W : World, Below W6.heap.size W6 W → W.heap[w5.heap.size]? = some (.cells (b8s D).toArray 26 (0, 0)) := fun W hb => (hb.block _ (by omega)).trans hg6
      have Hg6 := Lib.hid hg6; have Hrest := Lib.hid hs60
      clear hkl hg6 hs60 Hrd6 Hown6 hbs hs5 hs1
      refine wp_region_noPanic ?_
      refine wp_region_held_drew (S := fun W => W.heap[w5.heap.size]? = some (.cells (b8s D).toArray 26 (0, 0))) (by kernel_rfl) (by exact hg6d) (fun hHeld => ?_)
      refine wpAnyH_take (i := 0) (v := .slice (some ⟨w5.heap.size, 0, none⟩) 32 32) rfl (by kernel_rfl) (by kernel_rfl) (by kernel_rfl) (fun _ _ _ h => h) (Or.inl ⟨by rfl, ?y0⟩) (by assumption) ?t0
      case y0 => (intro w hSw; (try dsimp only at hSw); go_simp; try with_reducible rfl)
      try simp only [Act.put, List.setIfInBounds_toArray, List.set_cons_zero, List.set_cons_succ]
      refine wpAnyH_take (i := 1) (v := .string ⟨D.toArray⟩) rfl (by kernel_rfl) (by kernel_rfl) (by kernel_rfl) (fun _ _ _ h => h) (Or.inl ⟨by rfl, ?y1⟩) (by assumption) ?t1
      case y1 => (intro w hSw; (try dsimp only at hSw); go_simp; try with_reducible rfl)
      try simp only [Act.put, List.setIfInBounds_toArray, List.set_cons_zero, List.set_cons_succ]
      refine wpAnyH_take (i := 2) (v := .slice A2 k c2) rfl (by kernel_rfl) (by kernel_rfl) (by kernel_rfl) (fun _ _ _ h => h) (Or.inl ⟨by rfl, ?y2⟩) (by assumption) ?t2
      case y2 => (intro w hSw; (try dsimp only at hSw); go_simp; try with_reducible rfl)
      try simp only [Act.put, List.setIfInBounds_toArray, List.set_cons_zero, List.set_cons_succ]
      refine wpAnyH_ready (rs := [3]) (by kernel_rfl) (by simp) ?_
      refine AllReadyH.cons rfl (fun KX hKX => ?_) AllReadyH.nil
      go_simp
      refine (call9 _ rfl).mono ?_
      rintro e w9 ⟨A9, c9, rfl, hcv9, hb9⟩
      refine hKX.out _ _ (hkeep _ hb9) (fun hHeld => ?_)
      clear hKX KX
      try simp only [Act.put, List.setIfInBounds_toArray, List.set_cons_zero, List.set_cons_succ]
      refine wpAnyH_ready (rs := [4]) (by kernel_rfl) (by simp) ?_
      refine AllReadyH.cons rfl (fun KX hKX => ?_) AllReadyH.nil
      go_simp
      refine hKX.out _ _ (hkeep _ hb9) (fun hHeld => ?_)
      clear hKX KX
      try simp only [Act.put, List.setIfInBounds_toArray, List.set_cons_zero, List.set_cons_succ]
      refine wpAnyH_take (i := 5) (v := .bool true) rfl (by kernel_rfl) (by kernel_rfl) (by kernel_rfl) (fun _ _ _ h => h) (Or.inl ⟨by rfl, ?y5⟩) (by assumption) ?t5
      case y5 => (intro w hSw; (try dsimp only at hSw); go_simp; try with_reducible rfl)
      try simp only [Act.put, List.setIfInBounds_toArray, List.set_cons_zero, List.set_cons_succ]
      refine wpAnyH_take (i := 6) (v := .bool true) rfl (by kernel_rfl) (by kernel_rfl) (by kernel_rfl) (fun _ _ _ h => h) (Or.inl ⟨by rfl, ?y6⟩) (by assumption) ?t6
      case y6 => (intro w hSw; (try dsimp only at hSw); go_simp; try with_reducible rfl)
      try simp only [Act.put, List.setIfInBounds_toArray, List.set_cons_zero, List.set_cons_succ]
      refine wpAnyH_take (i := 7) (v := .slice A2 k c2) rfl (by kernel_rfl) (by kernel_rfl) (by kernel_rfl) (fun _ _ _ h => h) (Or.inl ⟨by rfl, ?y7⟩) (by assumption) ?t7
      case y7 => (intro w hSw; (try dsimp only at hSw); go_simp; try with_reducible rfl)
      try simp only [Act.put, List.setIfInBounds_toArray, List.set_cons_zero, List.set_cons_succ]
      refine wpAnyH_take (i := 8) (v := .int .i64 k) rfl (by kernel_rfl) (by kernel_rfl) (by kernel_rfl) (fun _ _ _ h => h) (Or.inl ⟨by rfl, ?y8⟩) (by assumption) ?t8
      case y8 => (intro w hSw; (try dsimp only at hSw); go_simp; try with_reducible rfl)
      try simp only [Act.put, List.setIfInBounds_toArray, List.set_cons_zero, List.set_cons_succ]
      refine wpAnyH_take (i := 9) (v := .int .u16 n) rfl (by kernel_rfl) (by kernel_rfl) (by kernel_rfl) (fun _ _ _ h => h) (Or.inl ⟨by rfl, ?y9⟩) (by assumption) ?t9
      case y9 => (intro w hSw; (try dsimp only at hSw); go_simp; try with_reducible rfl)
      try simp only [Act.put, List.setIfInBounds_toArray, List.set_cons_zero, List.set_cons_succ]
      refine wpAnyH_take (i := 10) (v := .int .u16 k) rfl (by kernel_rfl) (by kernel_rfl) (by kernel_rfl) (fun _ _ _ h => h) (Or.inl ⟨by rfl, ?y10⟩) (by assumption) ?t10
      case y10 => (intro w hSw; (try dsimp only at hSw); go_simp; try with_reducible rfl)
      try simp only [Act.put, List.setIfInBounds_toArray, List.set_cons_zero, List.set_cons_succ]
      refine wpAnyH_take (i := 11) (v := .int .i64 (IntKind.i64.wrap k)) rfl (by kernel_rfl) (by kernel_rfl) (by kernel_rfl) (fun _ _ _ h => h) (Or.inl ⟨by rfl, ?y11⟩) (by assumption) ?t11
      case y11 => (intro w hSw; (try dsimp only at hSw); go_simp; try with_reducible rfl)
      try simp only [Act.put, List.setIfInBounds_toArray, List.set_cons_zero, List.set_cons_succ]
      refine wpAnyH_take (i := 12) (v := .bool ((k : Int) == IntKind.i64.wrap k)) rfl (by kernel_rfl) (by kernel_rfl) (by kernel_rfl) (fun _ _ _ h => h) (Or.inl ⟨by rfl, ?y12⟩) (by assumption) ?t12
      case y12 => (intro w hSw; (try dsimp only at hSw); go_simp; try with_reducible rfl)
      try simp only [Act.put, List.setIfInBounds_toArray, List.set_cons_zero, List.set_cons_succ]
      refine wpAnyH_take (i := 13) (v := .bool ((k : Int) == IntKind.i64.wrap k)) rfl (by kernel_rfl) (by kernel_rfl) (by kernel_rfl) (fun _ _ _ h => h) (Or.inl ⟨by rfl, ?y13⟩) (by assumption) ?t13
      case y13 => (intro w hSw; (try dsimp only at hSw); go_simp; try with_reducible rfl)
      try simp only [Act.put, List.setIfInBounds_toArray, List.set_cons_zero, List.set_cons_succ]
      refine wpAnyH_take (i := 14) (v := .bool ((k : Int) == IntKind.i64.wrap k)) rfl (by kernel_rfl) (by kernel_rfl) (by kernel_rfl) (fun _ _ _ h => h) (Or.inl ⟨by rfl, ?y14⟩) (by assumption) ?t14
      case y14 => (intro w hSw; (try dsimp only at hSw); go_simp; try with_reducible rfl)
      try simp only [Act.put, List.setIfInBounds_toArray, List.set_cons_zero, List.set_cons_succ]
      refine wpAnyH_done (by kernel_rfl) ?_ _
      refine NoPanic.normal ?_
      simp only [Act.put, List.getElem_toArray, List.getElem_cons_succ, List.getElem_cons_zero, List.setIfInBounds_toArray, List.set_cons_zero, List.set_cons_succ]
      have ek : ((k : Int) == IntKind.i64.wrap (k : Int)) = true := by
        rw [beq_iff_eq, IntKind.wrap_i64]; omega
      rw [ek]
      go_wp2_with fail
      go_ret
      exact ⟨rfl, b1.trans ((hB.trans ((B6.mono hB.size).trans (hb9.mono (by have := hB.size; have := B6.size; omega)))).mono b1.size)⟩
end Go.Proofs.Ytknoonkjkdjkbaa
