/-
  ShaSums' walk.
-/
import Derived.Test.YtknoonkjkdjkbaaRs6
import Derived.Test.YtknoonkjkdjkbaaLHex
namespace Go.Proofs.Ytknoonkjkdjkbaa
open Go.RowKit Go.Shelf

theorem Rd.take {w : World} {B size n m : Nat} {A : Option Addr} {xs : List Value} (h : Rd w B size A n xs) (hm : m ≤ n) : Rd w B size A m (xs.take (m * size)) := by
  have hx := h.1
  refine ⟨by rw [List.length_take, hx]; exact Nat.min_eq_left (Nat.mul_le_mul_right _ hm), fun hp => ?_⟩
  obtain ⟨b, off, hA, hb, hcell⟩ := h.2 (by omega)
  refine ⟨b, off, hA, hb, fun j hj => ?_⟩
  rw [hcell j (Nat.lt_of_lt_of_le hj (Nat.mul_le_mul_right _ hm)), List.getElem?_take, if_pos hj]

theorem heap_two0 (w : World) (o1 o2 : Obj) : ((w.drew.alloc o1).alloc o2).heap[w.heap.size]? = some o1 :=
  (Below.heap_alloc _ _ _ (by show w.drew.heap.size < _; simp)).trans (World.alloc_heap_new w.drew _)
theorem heap_two1 (w : World) (o1 o2 : Obj) : ((w.drew.alloc o1).alloc o2).heap[w.heap.size + 1]? = some o2 := by
  have := World.alloc_heap_new (w.drew.alloc o1) o2
  rw [World.size_alloc] at this
  exact this
theorem bel_one (w : World) (o : Obj) : Below w.heap.size w (w.drew.alloc o) := (Below.refl _ w).drew.alloc (Nat.le_refl _) _
theorem bel_two (w : World) (o1 o2 : Obj) : Below w.heap.size w ((w.drew.alloc o1).alloc o2) := (bel_one w o1).alloc (bel_one w o1).size _
theorem size5 (w : World) : (sizeOf 5).run Try.prog w = .ok 1 w := by
  simp [go_sem]
theorem slice_h (A : Option Addr) (n cap i : Nat) (W : World) (h : i ≤ cap) : (Instr.slice 22 (.slice A n cap) none (some (.int .i64 (i : Int))) none).run Try.prog W = .ok (.slice (if cap = 0 then A else A.map (·.add (0 * 1))) i cap) W := by
  rw [run_slice_h W 22 A n cap Try.underlying22 .i64 (i : Int) (by omega) (by omega)]
  show ((sizeOf 5).run Try.prog W).andThen _ = _
  rw [size5]; simp [sliced]
theorem slice_lh (A : Option Addr) (n cap i k : Nat) (W : World) (h : i ≤ k) (h2 : k ≤ cap) : (Instr.slice 22 (.slice A n cap) (some (.int .i64 (i : Int))) (some (.int .i64 (k : Int))) none).run Try.prog W = .ok (.slice (if cap = i then A else A.map (·.add (i * 1))) (k - i) (cap - i)) W := by
  rw [run_slice_lh W 22 A n cap Try.underlying22 .i64 .i64 (i : Int) (k : Int) (by omega) (by omega) (by omega)]
  show ((sizeOf 5).run Try.prog W).andThen _ = _
  rw [size5]; simp [sliced]
theorem slice_l (A : Option Addr) (n cap i : Nat) (W : World) (h : i ≤ n) : (Instr.slice 22 (.slice A n cap) (some (.int .i64 (i : Int))) none none).run Try.prog W = .ok (.slice (if cap = i then A else A.map (·.add (i * 1))) (n - i) (cap - i)) W := by
  rw [run_slice_l W 22 A n cap Try.underlying22 .i64 (i : Int) (by omega) (by omega)]
  show ((sizeOf 5).run Try.prog W).andThen _ = _
  rw [size5]; simp [sliced]
theorem u64_lo (x : Int) : 0 ≤ IntKind.u64.wrap x := by
  rw [IntKind.wrap_u64]; omega
theorem tmod_nat (X : Int) (h : 0 ≤ X) (n i : Nat) (hi : i = X.toNat % (n + 1)) : X.tmod ((n : Int) + 1) = (i : Int) := by
  obtain ⟨m, rfl⟩ : ∃ m : Nat, X = (m : Int) := ⟨X.toNat, (Int.toNat_of_nonneg h).symm⟩
  rw [hi, Int.toNat_natCast]
  rfl
theorem u64_small (x : Int) (h : 0 ≤ x) (h1 : x < 18446744073709551616) : IntKind.u64.wrap x = x := by
  rw [IntKind.wrap_u64]; omega

set_option maxHeartbeats 4000000 in
set_option maxRecDepth 100000 in
theorem shaSums_any (l : List UInt8) (A : Option Addr) (cap B : Nat) (x y : Int) (w : World) (hr : Rd w B 1 A l.length (b8s l)) (hcap : l.length ≤ cap) (hB0 : B ≤ w.heap.size) (h63 : cap < 9223372036854775808) :
    Calls Try.prog 3 #[.slice A l.length cap, .agg #[.int .i64 x, .int .i64 y]] w fun e w' => e = .returned (.bool true) ∧ Below w.heap.size w w' := by
  obtain ⟨n, hn⟩ : ∃ n, n = l.length := ⟨_, rfl⟩
  have Hr := Lib.hid hr; clear hr
  rw [← hn] at hcap Hr ⊢
  have Hn := Lib.hid hn; clear hn
  go_enter Try.func3, Try.ntmps3
  go_wp2_with fail
  obtain ⟨w0, hw0⟩ : ∃ w0, w0 = w.alloc (.cells #[.int .i64 x, .int .i64 y] 23) := ⟨_, rfl⟩
  have b0 : Below w.heap.size w w0 := by rw [hw0]; exact (Below.refl _ w).alloc (Nat.le_refl _) _
  have hs0 : w0.heap.size = w.heap.size + 1 := by rw [hw0]; simp
  have hg0 : Blk w0 w.heap.size 23 [.int .i64 x, .int .i64 y] := by rw [hw0]; exact blk_new w 23 _
  refine calls_at (w1 := w0) hw0.symm ?_
  clear hw0
  refine (first_any w0).mono ?_
  rintro e w1 ⟨rfl, b1⟩
  have hs1 := b1.size
  by_cases hbig : n > 600
  · have hm : decide ((n : Int) > 600) = true := by rw [decide_eq_true_eq]; omega
    go_wp2_with fail
    go_ret
    exact ⟨rfl, b0.trans (b1.mono (by omega))⟩
  · have hm : decide ((n : Int) > 600) = false := by rw [decide_eq_false_iff_not]; omega
    have hg1 := blk_below hg0 b1 (by omega)
    have cx : w1.cell? ⟨w.heap.size, 0, none⟩ = some (.int .i64 x) := blk_cell hg1 0
    have cy : w1.cell? ⟨w.heap.size, 1, none⟩ = some (.int .i64 y) := blk_cell hg1 1
    have hx0 := u64_lo x
    have hy0 := u64_lo y
    obtain ⟨X, hX⟩ : ∃ X, IntKind.u64.wrap x = X := ⟨_, rfl⟩
    obtain ⟨Y, hY⟩ : ∃ Y, IntKind.u64.wrap y = Y := ⟨_, rfl⟩
    rw [hX] at hx0
    rw [hY] at hy0
    obtain ⟨i, hi⟩ : ∃ i, i = X.toNat % (n + 1) := ⟨_, rfl⟩
    obtain ⟨j, hj⟩ : ∃ j, j = Y.toNat % (n - i + 1) := ⟨_, rfl⟩
    have hin : i ≤ n := by rw [hi]; have := Nat.mod_lt X.toNat (show 0 < n + 1 by omega); omega
    have hjn : j ≤ n - i := by rw [hj]; have := Nat.mod_lt Y.toNat (show 0 < n - i + 1 by omega); omega
    have n2 : IntKind.u64.wrap ((n : Int) + 1) = (n : Int) + 1 := u64_small _ (by omega) (by omega)
    have n3 : ((n : Int) + 1 == 0) = false := by rw [beq_eq_false_iff_ne]; omega
    have t1 : X.tmod ((n : Int) + 1) = (i : Int) := by
      exact tmod_nat X hx0 n i hi
    have n7 : IntKind.u64.wrap ((n : Int) - (i : Int) + 1) = (n : Int) - (i : Int) + 1 := u64_small _ (by omega) (by omega)
    have n8 : ((n : Int) - (i : Int) + 1 == 0) = false := by rw [beq_eq_false_iff_ne]; omega
    have t2 : Y.tmod ((n : Int) - (i : Int) + 1) = (j : Int) := by
      have := tmod_nat Y hy0 (n - i) j hj
      rw [← this]; congr 2; omega
    clear hi hj
    go_wp2_with fail
    obtain ⟨k, hk⟩ : ∃ k, k = i + j := ⟨_, rfl⟩
    have ek : (i : Int) + (j : Int) = (k : Int) := by omega
    rw [ek]
    have hik : i ≤ k := by omega
    have hkn : k ≤ n := by omega
    clear ek hk hjn t1 t2 n2 n3 n7 n8 hX hY hx0 hy0 cx cy
    have hs1l := fun W => slice_h A n cap i W (by omega)
    have hs2l := fun W => slice_lh A n cap i k W hik (by omega)
    have hs3l := fun W => slice_l A n cap k W hkn
    have Hr1 : Hid (Rd w1 B 1 A n (b8s l)) := Hr.out.keep ((b0.trans (b1.mono (by omega))).mono hB0)
    have R1 := (Hr1.out.cut (k := 0) (Nat.zero_le _) hcap).take (m := i) (by omega)
    have R2 := (Hr1.out.cut (k := i) (by omega) hcap).take (m := k - i) (by omega)
    have R3 := Hr1.out.cut (k := k) hkn hcap
    obtain ⟨A1, hA1⟩ : ∃ A1, A1 = if cap = 0 then A else A.map (·.add (0 * 1)) := ⟨_, rfl⟩
    obtain ⟨A2, hA2⟩ : ∃ A2, A2 = if cap = i then A else A.map (·.add (i * 1)) := ⟨_, rfl⟩
    obtain ⟨A3, hA3⟩ : ∃ A3, A3 = if cap = k then A else A.map (·.add (k * 1)) := ⟨_, rfl⟩
    rw [← hA1] at R1 hs1l
    rw [← hA2] at R2 hs2l
    rw [← hA3] at R3 hs3l
    clear hA1 hA2 hA3
    have L1 : (l.take i).length = i := by rw [List.length_take, ← Hn.out]; omega
    have L2 : ((l.drop i).take (k - i)).length = k - i := by rw [List.length_take, List.length_drop, ← Hn.out]; omega
    have L3 : (l.drop k).length = n - k := by rw [List.length_drop, ← Hn.out]
    have R1' : Rd w1 B 1 A1 i (b8s (l.take i)) := by
      have e : b8s (l.take i) = ((b8s l).drop (0 * 1)).take (i * 1) := by simp [b8s]
      rw [e]; exact R1
    have R2' : Rd w1 B 1 A2 (k - i) (b8s ((l.drop i).take (k - i))) := by
      have e : b8s ((l.drop i).take (k - i)) = ((b8s l).drop (i * 1)).take ((k - i) * 1) := by simp [b8s]
      rw [e]; exact R2
    have R3' : Rd w1 B 1 A3 (n - k) (b8s (l.drop k)) := by
      have e : b8s (l.drop k) = (b8s l).drop (k * 1) := by simp [b8s]
      rw [e]; exact R3
    clear R1 R2 R3
    obtain ⟨ps, hps⟩ : ∃ ps : List Part, ps = [⟨A1, cap, l.take i⟩, ⟨A2, cap - i, (l.drop i).take (k - i)⟩, ⟨none, 0, []⟩, ⟨A3, cap - k, l.drop k⟩] := ⟨_, rfl⟩
    have hall : allBytes ps = l := by
      rw [hps]
      simp only [allBytes, List.flatMap_cons, List.flatMap_nil, List.append_nil, List.nil_append]
      have e : l.drop k = (l.drop i).drop (k - i) := by rw [List.drop_drop]; congr 1; omega
      rw [e, List.take_append_drop, List.take_append_drop]
    obtain ⟨partsV, hpv⟩ : ∃ partsV : Array Value, partsV = #[.slice A1 i cap, .slice A2 (k - i) (cap - i), .slice none 0 0, .slice A3 (n - k) (cap - k)] := ⟨_, rfl⟩
    have hval : ps.map Part.val = partsV.toList := by
      rw [hps, hpv]; simp only [List.map_cons, List.map_nil, Part.val, L1, L2, L3]; rfl
    have hlen : ps.length = 4 := by rw [hps]; rfl
    have hok : ∀ p ∈ ps, Rd w1 B 1 p.at_ p.bytes.length (b8s p.bytes) ∧ p.bytes.length ≤ p.cap := by
      intro p hp
      rw [hps] at hp
      simp only [List.mem_cons, List.not_mem_nil, or_false] at hp
      rcases hp with rfl | rfl | rfl | rfl
      · exact ⟨by show Rd w1 B 1 A1 (l.take i).length _; rw [L1]; exact R1', by show (l.take i).length ≤ cap; omega⟩
      · exact ⟨by show Rd w1 B 1 A2 ((l.drop i).take (k - i)).length _; rw [L2]; exact R2', by show ((l.drop i).take (k - i)).length ≤ cap - i; omega⟩
      · exact ⟨Rd.nil, Nat.le_refl _⟩
      · exact ⟨by show Rd w1 B 1 A3 (l.drop k).length _; rw [L3]; exact R3', by show (l.drop k).length ≤ cap - k; omega⟩
    obtain ⟨D, hD⟩ : ∃ D, D = digest l := ⟨_, rfl⟩
    have hDl : D.length = 32 := by rw [hD]; exact digest_length _
    have call8 : ∀ (W : World) (g : Nat), W.heap[g]? = some (.cells partsV 22 (0, 0)) → Below w1.heap.size w1 W → Calls Try.prog 8 #[.slice (some ⟨g, 0, none⟩) 4 4] W fun e w' => e = .returned (.agg (b8s D).toArray) ∧ Below W.heap.size W w' := by
      intro W g hg hb
      have hgl : g < W.heap.size := (Array.getElem?_eq_some_iff.1 hg).1
      have hpa : partsAt W W.heap.size (some ⟨g, 0, none⟩) ps := by
        refine ⟨?_, fun p hp => ?_⟩
        · rw [hlen, hval]
          have := rd_row (w := W) (g := g) (n := 4) (B := W.heap.size) (t := 22) (xs := partsV.toList) (fr := (0, 0)) (by simpa using hg) hgl (by rw [hpv]; rfl)
          exact this
        · obtain ⟨h1, h2⟩ := hok p hp
          exact ⟨(h1.keep (hb.mono (by omega))).more (by have := hb.size; omega), h2⟩
      have := sum_any ps (some ⟨g, 0, none⟩) 4 W.heap.size W hpa (Nat.le_refl _) (by omega) (by omega) (by rw [hall, ← Hn.out]; omega)
      rw [hall, hlen, ← hD] at this
      exact this
    have HDl := Lib.hid hDl; have HD := Lib.hid hD; have Hpv := Lib.hid hpv
    clear hDl hD hok hlen hval hall hps R1' R2' R3' L1 L2 L3
    have Bw1 : Below w.heap.size w w1 := b0.trans (b1.mono (by omega))
    clear b0 b1
    obtain ⟨zeros26, hz26⟩ : ∃ z : Array Value, z = (List.replicate 32 (Value.int .u8 0)).toArray := ⟨_, rfl⟩
    refine wp_region_noPanic ?_
    refine wp_region_held_drew (S := fun _ => True) (by kernel_rfl) trivial (fun hHeld => ?_)
    refine wpAnyH_take (i := 0) (v := .slice A n cap) rfl (by kernel_rfl) (by kernel_rfl) (by kernel_rfl) (fun _ _ _ h => h) (Or.inl ⟨by rfl, ?y0⟩) (by assumption) ?t0
    case y0 => (intro w hSw; (try dsimp only at hSw); go_simp; try with_reducible rfl)
    try simp only [Act.put, List.setIfInBounds_toArray, List.set_cons_zero, List.set_cons_succ]
    refine wpAnyH_take (i := 1) (v := .int .i64 i) rfl (by kernel_rfl) (by kernel_rfl) (by kernel_rfl) (fun _ _ _ h => h) (Or.inl ⟨by rfl, ?y1⟩) (by assumption) ?t1
    case y1 => (intro w hSw; (try dsimp only at hSw); go_simp; try with_reducible rfl)
    try simp only [Act.put, List.setIfInBounds_toArray, List.set_cons_zero, List.set_cons_succ]
    refine wpAnyH_take (i := 2) (v := .slice A1 i cap) rfl (by kernel_rfl) (by kernel_rfl) (by kernel_rfl) (fun _ _ _ h => h) (Or.inl ⟨by rfl, ?y2⟩) (by assumption) ?t2
    case y2 => (intro w hSw; (try dsimp only at hSw); go_simp; try with_reducible rfl)
    try simp only [Act.put, List.setIfInBounds_toArray, List.set_cons_zero, List.set_cons_succ]
    refine wpAnyH_take (i := 3) (v := .slice A n cap) rfl (by kernel_rfl) (by kernel_rfl) (by kernel_rfl) (fun _ _ _ h => h) (Or.inl ⟨by rfl, ?y3⟩) (by assumption) ?t3
    case y3 => (intro w hSw; (try dsimp only at hSw); go_simp; try with_reducible rfl)
    try simp only [Act.put, List.setIfInBounds_toArray, List.set_cons_zero, List.set_cons_succ]
    refine wpAnyH_take (i := 4) (v := .int .i64 i) rfl (by kernel_rfl) (by kernel_rfl) (by kernel_rfl) (fun _ _ _ h => h) (Or.inl ⟨by rfl, ?y4⟩) (by assumption) ?t4
    case y4 => (intro w hSw; (try dsimp only at hSw); go_simp; try with_reducible rfl)
    try simp only [Act.put, List.setIfInBounds_toArray, List.set_cons_zero, List.set_cons_succ]
    refine wpAnyH_take (i := 5) (v := .int .i64 k) rfl (by kernel_rfl) (by kernel_rfl) (by kernel_rfl) (fun _ _ _ h => h) (Or.inl ⟨by rfl, ?y5⟩) (by assumption) ?t5
    case y5 => (intro w hSw; (try dsimp only at hSw); go_simp; try with_reducible rfl)
    try simp only [Act.put, List.setIfInBounds_toArray, List.set_cons_zero, List.set_cons_succ]
    refine wpAnyH_take (i := 6) (v := .slice A2 (k - i) (cap - i)) rfl (by kernel_rfl) (by kernel_rfl) (by kernel_rfl) (fun _ _ _ h => h) (Or.inl ⟨by rfl, ?y6⟩) (by assumption) ?t6
    case y6 => (intro w hSw; (try dsimp only at hSw); go_simp; try with_reducible rfl)
    try simp only [Act.put, List.setIfInBounds_toArray, List.set_cons_zero, List.set_cons_succ]
    refine wpAnyH_take (i := 7) (v := .slice A n cap) rfl (by kernel_rfl) (by kernel_rfl) (by kernel_rfl) (fun _ _ _ h => h) (Or.inl ⟨by rfl, ?y7⟩) (by assumption) ?t7
    case y7 => (intro w hSw; (try dsimp only at hSw); go_simp; try with_reducible rfl)
    try simp only [Act.put, List.setIfInBounds_toArray, List.set_cons_zero, List.set_cons_succ]
    refine wpAnyH_take (i := 8) (v := .int .i64 k) rfl (by kernel_rfl) (by kernel_rfl) (by kernel_rfl) (fun _ _ _ h => h) (Or.inl ⟨by rfl, ?y8⟩) (by assumption) ?t8
    case y8 => (intro w hSw; (try dsimp only at hSw); go_simp; try with_reducible rfl)
    try simp only [Act.put, List.setIfInBounds_toArray, List.set_cons_zero, List.set_cons_succ]
    refine wpAnyH_take (i := 9) (v := .slice A3 (n - k) (cap - k)) rfl (by kernel_rfl) (by kernel_rfl) (by kernel_rfl) (fun _ _ _ h => h) (Or.inl ⟨by rfl, ?y9⟩) (by assumption) ?t9
    case y9 => (intro w hSw; (try dsimp only at hSw); go_simp; try with_reducible rfl)
    try simp only [Act.put, List.setIfInBounds_toArray, List.set_cons_zero, List.set_cons_succ]
    have h32 : (b8s D).toArray.size = 32 := by simp [b8s, HDl.out]
    refine wpAnyH_ready (rs := [10, 12]) (by kernel_rfl) (by simp) ?_
    refine AllReadyH.cons rfl (fun KX hKX => ?_) ?_
    · go_simp
      refine hKX.out _ _ trivial (fun hHeld => ?_)
      clear hKX KX
      try simp only [Act.put, List.getElem_toArray, List.getElem_cons_succ, List.getElem_cons_zero, List.setIfInBounds_toArray, List.set_cons_zero, List.set_cons_succ]
      refine wpAnyH_ready (rs := [11, 12]) (by kernel_rfl) (by simp) ?_
      refine AllReadyH.cons rfl (fun KX hKX => ?_) ?_
      · go_simp
        refine (call8 _ w1.heap.size (by rw [Hpv.out]; exact World.alloc_heap_new w1.drew _) (bel_one _ _)).mono ?_
        rintro e w5 ⟨rfl, b5⟩
        refine hKX.out _ _ trivial (fun hHeld => ?_)
        clear hKX KX
        try simp only [Act.put, List.getElem_toArray, List.getElem_cons_succ, List.getElem_cons_zero, List.setIfInBounds_toArray, List.set_cons_zero, List.set_cons_succ]
        refine wpAnyH_ready (rs := [12]) (by kernel_rfl) (by simp) ?_
        refine AllReadyH.cons rfl (fun KX hKX => ?_) ?_
        · go_simp
          refine hKX.out _ _ trivial (fun hHeld => ?_)
          clear hKX KX
          try simp only [Act.put, List.getElem_toArray, List.getElem_cons_succ, List.getElem_cons_zero, List.setIfInBounds_toArray, List.set_cons_zero, List.set_cons_succ]
          have bpre := (bel_one w1 _).trans (b5.mono (bel_one w1 _).size)
          have bel0 := bpre.alloc bpre.size (.cells (List.replicate 32 (.int .u8 0)).toArray 26)
          have hGle : w1.heap.size ≤ w5.heap.size := bpre.size
          refine wpAnyH_ready (rs := [13]) (by kernel_rfl) (by simp) ?_
          refine AllReadyH.cons rfl (fun KX hKX => ?_) AllReadyH.nil
          rw [if_pos (by rfl)]
          refine wp_store_row 26 (.tmp 7) (.tmp 47) rfl w5.heap.size (b8s D).toArray rfl rfl 26 (List.replicate 32 (.int .u8 0)).toArray (by exact heap_alloc_new w5 _) (by rw [h32]; kernel_rfl) (by rw [h32]; simp) (b8s_all D) ?_
          refine hKX.out _ _ trivial (fun hHeld => ?_)
          clear hKX KX
          refine wpAnyH_done (by kernel_rfl) ?_ _
          refine NoPanic.normal ?_
          try simp only [Act.put, List.getElem_toArray, List.getElem_cons_succ, List.getElem_cons_zero, List.setIfInBounds_toArray, List.set_cons_zero, List.set_cons_succ]
          have hG := setRow_heap _ _ _ (b8s D).toArray 26 (0, 0) (show _ = some (Obj.cells (List.replicate 32 (.int .u8 0)).toArray 26 (0, 0)) from (by exact heap_alloc_new w5 _))
          have bX := below_setRow bel0 hGle (b8s D).toArray
          obtain ⟨WY, hWY⟩ : ∃ WY : World, WY = (w5.alloc (.cells #[.int .u8 0, .int .u8 0, .int .u8 0, .int .u8 0, .int .u8 0, .int .u8 0, .int .u8 0, .int .u8 0, .int .u8 0, .int .u8 0, .int .u8 0, .int .u8 0, .int .u8 0, .int .u8 0, .int .u8 0, .int .u8 0, .int .u8 0, .int .u8 0, .int .u8 0, .int .u8 0, .int .u8 0, .int .u8 0, .int .u8 0, .int .u8 0, .int .u8 0, .int .u8 0, .int .u8 0, .int .u8 0, .int .u8 0, .int .u8 0, .int .u8 0, .int .u8 0] 26)).setRow w5.heap.size (b8s D).toArray := ⟨_, rfl⟩
          have hG : WY.heap[w5.heap.size]? = some (.cells (b8s D).toArray 26 (0, 0)) := by rw [hWY]; exact hG
          have bX : Below w1.heap.size w1 WY := by rw [hWY]; exact bX
          rw [← hWY]
          clear hWY bel0 b5
          clear bpre
          have hgl : w5.heap.size < WY.heap.size := (Array.getElem?_eq_some_iff.1 hG).1
          clear hGle
          obtain ⟨G, hGe⟩ : ∃ G, G = w5.heap.size := ⟨_, rfl⟩
          rw [← hGe] at hG hgl ⊢
          clear hGe
          have hrY : Hid (Rd WY B 1 A n (b8s l)) := Hr1.out.keep (bX.mono (by omega))
          have h9 := rsum_any l A cap B WY (by rw [← Hn.out]; exact hrY.out) (by have := bX.size; omega) (by rw [← Hn.out]; exact hcap) (by rw [← Hn.out]; omega)
          rw [← Hn.out, ← HD.out] at h9
          have H9 := Lib.hid h9; clear h9
          clear call8 hs1l hs2l hs3l h32
          go_wp2_with fail
          refine H9.out.mono ?_
          rintro e w6 ⟨v6, rfl, o6, b6⟩
          rw [Owns8, HDl.out] at o6
          obtain ⟨A6, c6, rfl, hc6, _⟩ := own_form o6
          have hg6 := (b6.block G hgl).trans hG
          have hs6 := b6.size
          obtain ⟨gb, rfl, _, hgb⟩ := own_some o6 (by decide)
          obtain ⟨cs6, hb6, _, hct6⟩ := own_blk o6
          have hr6 : Hid (Rd w6 B 1 A n (b8s l)) := hrY.out.keep (b6.mono (by have := bX.size; omega))
          have B6 : Below w1.heap.size w1 w6 := bX.trans (b6.mono bX.size)
          clear H9 b6 hG o6 hrY
          go_wp2_with fail
          have hcv1 : ∀ W : World, W.heap[G]? = some (.cells (b8s D).toArray 26 (0, 0)) → (convert 22 9 (.slice (some ⟨G, 0, none⟩) 32 32)).run Try.prog W = .ok (.string ⟨D.toArray⟩) W := by
            intro W hW
            have := rd_string (w := W) (B := G + 1) (A := some ⟨G, 0, none⟩) D 32 (rd_row hW (by omega) (by simp [b8s]))
            rw [HDl.out] at this; exact this
          have hrd : ∀ W : World, W.heap[gb]? = some (.cells cs6.toArray 5 (0, 0)) → Rd W (gb + 1) 1 (some ⟨gb, 0, none⟩) 32 (b8s D) := by
            intro W hW
            refine ⟨by rw [b8s_length, HDl.out], fun _ => ⟨gb, 0, rfl, by omega, fun q hq => ?_⟩⟩
            rw [Nat.zero_add, cell_of_row W gb q cs6.toArray 5 (0, 0) hW, ← hct6]
            simp only [Nat.mul_one] at hq ⊢
            simp [hq]
          have hcv2 : ∀ W : World, W.heap[gb]? = some (.cells cs6.toArray 5 (0, 0)) → (convert 22 9 (.slice (some ⟨gb, 0, none⟩) 32 c6)).run Try.prog W = .ok (.string ⟨D.toArray⟩) W := by
            intro W hW
            have := rd_string (w := W) (B := gb + 1) (A := some ⟨gb, 0, none⟩) D c6 (by rw [HDl.out]; exact hrd W hW)
            rw [HDl.out] at this; exact this
          have hkeep : ∀ W : World, Below w6.heap.size w6 W → W.heap[G]? = some (.cells (b8s D).toArray 26 (0, 0)) ∧ W.heap[gb]? = some (.cells cs6.toArray 5 (0, 0)) :=
            fun W hb => ⟨(hb.block _ (by omega)).trans hg6, (hb.block _ hgb).trans hb6⟩
          have callH : ∀ W : World, W = w6.drew.alloc (.cells #[.slice A n cap] 22) → Calls Try.prog 10 #[.slice (some ⟨w6.heap.size, 0, none⟩) 1 1] W fun e w' => e = .returned (.string ⟨(hexOf D).toArray⟩) ∧ Below w6.heap.size w6 w' := by
            rintro W rfl
            have hok : ∀ p ∈ [(⟨A, cap, l⟩ : Part)], p.ok w6.drew w6.drew.heap.size := by
              intro p hp
              simp only [List.mem_cons, List.not_mem_nil, or_false] at hp
              subst hp
              refine ⟨?_, by show l.length ≤ cap; rw [← Hn.out]; exact hcap⟩
              show Rd w6.drew w6.drew.heap.size 1 A l.length (b8s l)
              rw [← Hn.out]; exact Rd.more hr6.out (by show B ≤ w6.heap.size; have := B6.size; omega)
            obtain ⟨h1, h2, h3⟩ := partsAt_list w6.drew [⟨A, cap, l⟩] hok
            have hv : [(⟨A, cap, l⟩ : Part)].map Part.val = [.slice A n cap] := by simp only [List.map_cons, List.map_nil, Part.val, ← Hn.out]
            rw [hv] at h1 h2 h3
            have ha : allBytes [(⟨A, cap, l⟩ : Part)] = l := by simp [allBytes]
            have h4 := hex_any _ _ 1 _ _ h1 (Nat.le_refl _) (Nat.le_refl 1) (by show 1 ≤ 1000; decide) (by rw [ha, ← Hn.out]; omega)
            rw [ha, ← HD.out] at h4
            refine h4.mono ?_
            rintro e w' ⟨rfl, hb⟩
            exact ⟨rfl, (bel_one w6 _).trans (hb.mono (bel_one w6 _).size)⟩
          have callR : ∀ W : World, Below w6.heap.size w6 W → Calls Try.prog 11 #[.slice (some ⟨gb, 0, none⟩) 32 c6] W fun e w' => e = .returned (.string ⟨(hexOf D).toArray⟩) ∧ Below w6.heap.size w6 w' := by
            intro W hb
            have h1 := refHex_any D (some ⟨gb, 0, none⟩) c6 (gb + 1) W (by rw [HDl.out]; exact hrd W (hkeep W hb).2) (by rw [HDl.out]; exact hc6) (by rw [HDl.out]; decide)
            rw [HDl.out] at h1
            refine h1.mono ?_
            rintro e w' ⟨rfl, q, rfl⟩
            exact ⟨rfl, hb.trans ⟨rfl, rfl, rfl, Nat.le_refl _, fun _ _ => rfl⟩⟩
          have hkd := hkeep _ ((Below.refl _ w6).drew)
          have BF : Below w.heap.size w w6 := Bw1.trans (B6.mono Bw1.size)
          clear hr6 hrd hct6 hg6 hb6 hs6 B6 Hr1
          go_region_held3 (fun W => W.heap[G]? = some (.cells (b8s D).toArray 26 (0, 0)) ∧ W.heap[gb]? = some (.cells cs6.toArray 5 (0, 0))) (first | exact hkd | exact hkeep _ (bel_one _ _) | exact hkeep _ hb12 | exact hkeep _ hb11)
            (first
              | (go_at_call 10; refine (callH _ rfl).mono ?_; rintro e w11 ⟨rfl, hb11⟩)
              | (go_at_call 11; refine (callR _ hb11).mono ?_; rintro e w12 ⟨rfl, hb12⟩))
          go_wp2_with fail
          go_ret
          exact ⟨rfl, BF.trans (hb12.mono BF.size)⟩
        exact AllReadyH.nil
      refine AllReadyH.cons rfl (fun KX hKX => ?_) ?_
      · go_simp
        refine hKX.out _ _ trivial (fun hHeld => ?_)
        clear hKX KX
        try simp only [Act.put, List.getElem_toArray, List.getElem_cons_succ, List.getElem_cons_zero, List.setIfInBounds_toArray, List.set_cons_zero, List.set_cons_succ]
        refine wpAnyH_ready (rs := [11]) (by kernel_rfl) (by simp) ?_
        refine AllReadyH.cons rfl (fun KX hKX => ?_) ?_
        · go_simp
          refine (call8 _ w1.heap.size (by rw [Hpv.out]; exact heap_two0 _ _ _) (bel_two _ _ _)).mono ?_
          rintro e w5 ⟨rfl, b5⟩
          refine hKX.out _ _ trivial (fun hHeld => ?_)
          clear hKX KX
          try simp only [Act.put, List.getElem_toArray, List.getElem_cons_succ, List.getElem_cons_zero, List.setIfInBounds_toArray, List.set_cons_zero, List.set_cons_succ]
          have bel0 := (bel_two w1 _ _).trans (b5.mono (bel_two w1 _ _).size)
          have hGle : w1.heap.size ≤ w1.heap.size + 1 := by omega
          refine wpAnyH_ready (rs := [13]) (by kernel_rfl) (by simp) ?_
          refine AllReadyH.cons rfl (fun KX hKX => ?_) AllReadyH.nil
          rw [if_pos (by rfl)]
          refine wp_store_row 26 (.tmp 7) (.tmp 47) rfl (w1.heap.size + 1) (b8s D).toArray rfl rfl 26 (List.replicate 32 (.int .u8 0)).toArray (by exact (b5.block _ (by simp <;> omega)).trans (heap_two1 w1 _ _)) (by rw [h32]; kernel_rfl) (by rw [h32]; simp) (b8s_all D) ?_
          refine hKX.out _ _ trivial (fun hHeld => ?_)
          clear hKX KX
          refine wpAnyH_done (by kernel_rfl) ?_ _
          refine NoPanic.normal ?_
          try simp only [Act.put, List.getElem_toArray, List.getElem_cons_succ, List.getElem_cons_zero, List.setIfInBounds_toArray, List.set_cons_zero, List.set_cons_succ]
          have hG := setRow_heap _ _ _ (b8s D).toArray 26 (0, 0) (show _ = some (Obj.cells (List.replicate 32 (.int .u8 0)).toArray 26 (0, 0)) from (by exact (b5.block _ (by simp <;> omega)).trans (heap_two1 w1 _ _)))
          have bX := below_setRow bel0 hGle (b8s D).toArray
          obtain ⟨WY, hWY⟩ : ∃ WY : World, WY = w5.setRow (w1.heap.size + 1) (b8s D).toArray := ⟨_, rfl⟩
          have hG : WY.heap[(w1.heap.size + 1)]? = some (.cells (b8s D).toArray 26 (0, 0)) := by rw [hWY]; exact hG
          have bX : Below w1.heap.size w1 WY := by rw [hWY]; exact bX
          rw [← hWY]
          clear hWY bel0 b5
          have hgl : (w1.heap.size + 1) < WY.heap.size := (Array.getElem?_eq_some_iff.1 hG).1
          clear hGle
          obtain ⟨G, hGe⟩ : ∃ G, G = (w1.heap.size + 1) := ⟨_, rfl⟩
          rw [← hGe] at hG hgl ⊢
          clear hGe
          have hrY : Hid (Rd WY B 1 A n (b8s l)) := Hr1.out.keep (bX.mono (by omega))
          have h9 := rsum_any l A cap B WY (by rw [← Hn.out]; exact hrY.out) (by have := bX.size; omega) (by rw [← Hn.out]; exact hcap) (by rw [← Hn.out]; omega)
          rw [← Hn.out, ← HD.out] at h9
          have H9 := Lib.hid h9; clear h9
          clear call8 hs1l hs2l hs3l h32
          go_wp2_with fail
          refine H9.out.mono ?_
          rintro e w6 ⟨v6, rfl, o6, b6⟩
          rw [Owns8, HDl.out] at o6
          obtain ⟨A6, c6, rfl, hc6, _⟩ := own_form o6
          have hg6 := (b6.block G hgl).trans hG
          have hs6 := b6.size
          obtain ⟨gb, rfl, _, hgb⟩ := own_some o6 (by decide)
          obtain ⟨cs6, hb6, _, hct6⟩ := own_blk o6
          have hr6 : Hid (Rd w6 B 1 A n (b8s l)) := hrY.out.keep (b6.mono (by have := bX.size; omega))
          have B6 : Below w1.heap.size w1 w6 := bX.trans (b6.mono bX.size)
          clear H9 b6 hG o6 hrY
          go_wp2_with fail
          have hcv1 : ∀ W : World, W.heap[G]? = some (.cells (b8s D).toArray 26 (0, 0)) → (convert 22 9 (.slice (some ⟨G, 0, none⟩) 32 32)).run Try.prog W = .ok (.string ⟨D.toArray⟩) W := by
            intro W hW
            have := rd_string (w := W) (B := G + 1) (A := some ⟨G, 0, none⟩) D 32 (rd_row hW (by omega) (by simp [b8s]))
            rw [HDl.out] at this; exact this
          have hrd : ∀ W : World, W.heap[gb]? = some (.cells cs6.toArray 5 (0, 0)) → Rd W (gb + 1) 1 (some ⟨gb, 0, none⟩) 32 (b8s D) := by
            intro W hW
            refine ⟨by rw [b8s_length, HDl.out], fun _ => ⟨gb, 0, rfl, by omega, fun q hq => ?_⟩⟩
            rw [Nat.zero_add, cell_of_row W gb q cs6.toArray 5 (0, 0) hW, ← hct6]
            simp only [Nat.mul_one] at hq ⊢
            simp [hq]
          have hcv2 : ∀ W : World, W.heap[gb]? = some (.cells cs6.toArray 5 (0, 0)) → (convert 22 9 (.slice (some ⟨gb, 0, none⟩) 32 c6)).run Try.prog W = .ok (.string ⟨D.toArray⟩) W := by
            intro W hW
            have := rd_string (w := W) (B := gb + 1) (A := some ⟨gb, 0, none⟩) D c6 (by rw [HDl.out]; exact hrd W hW)
            rw [HDl.out] at this; exact this
          have hkeep : ∀ W : World, Below w6.heap.size w6 W → W.heap[G]? = some (.cells (b8s D).toArray 26 (0, 0)) ∧ W.heap[gb]? = some (.cells cs6.toArray 5 (0, 0)) :=
            fun W hb => ⟨(hb.block _ (by omega)).trans hg6, (hb.block _ hgb).trans hb6⟩
          have callH : ∀ W : World, W = w6.drew.alloc (.cells #[.slice A n cap] 22) → Calls Try.prog 10 #[.slice (some ⟨w6.heap.size, 0, none⟩) 1 1] W fun e w' => e = .returned (.string ⟨(hexOf D).toArray⟩) ∧ Below w6.heap.size w6 w' := by
            rintro W rfl
            have hok : ∀ p ∈ [(⟨A, cap, l⟩ : Part)], p.ok w6.drew w6.drew.heap.size := by
              intro p hp
              simp only [List.mem_cons, List.not_mem_nil, or_false] at hp
              subst hp
              refine ⟨?_, by show l.length ≤ cap; rw [← Hn.out]; exact hcap⟩
              show Rd w6.drew w6.drew.heap.size 1 A l.length (b8s l)
              rw [← Hn.out]; exact Rd.more hr6.out (by show B ≤ w6.heap.size; have := B6.size; omega)
            obtain ⟨h1, h2, h3⟩ := partsAt_list w6.drew [⟨A, cap, l⟩] hok
            have hv : [(⟨A, cap, l⟩ : Part)].map Part.val = [.slice A n cap] := by simp only [List.map_cons, List.map_nil, Part.val, ← Hn.out]
            rw [hv] at h1 h2 h3
            have ha : allBytes [(⟨A, cap, l⟩ : Part)] = l := by simp [allBytes]
            have h4 := hex_any _ _ 1 _ _ h1 (Nat.le_refl _) (Nat.le_refl 1) (by show 1 ≤ 1000; decide) (by rw [ha, ← Hn.out]; omega)
            rw [ha, ← HD.out] at h4
            refine h4.mono ?_
            rintro e w' ⟨rfl, hb⟩
            exact ⟨rfl, (bel_one w6 _).trans (hb.mono (bel_one w6 _).size)⟩
          have callR : ∀ W : World, Below w6.heap.size w6 W → Calls Try.prog 11 #[.slice (some ⟨gb, 0, none⟩) 32 c6] W fun e w' => e = .returned (.string ⟨(hexOf D).toArray⟩) ∧ Below w6.heap.size w6 w' := by
            intro W hb
            have h1 := refHex_any D (some ⟨gb, 0, none⟩) c6 (gb + 1) W (by rw [HDl.out]; exact hrd W (hkeep W hb).2) (by rw [HDl.out]; exact hc6) (by rw [HDl.out]; decide)
            rw [HDl.out] at h1
            refine h1.mono ?_
            rintro e w' ⟨rfl, q, rfl⟩
            exact ⟨rfl, hb.trans ⟨rfl, rfl, rfl, Nat.le_refl _, fun _ _ => rfl⟩⟩
          have hkd := hkeep _ ((Below.refl _ w6).drew)
          have BF : Below w.heap.size w w6 := Bw1.trans (B6.mono Bw1.size)
          clear hr6 hrd hct6 hg6 hb6 hs6 B6 Hr1
          go_region_held3 (fun W => W.heap[G]? = some (.cells (b8s D).toArray 26 (0, 0)) ∧ W.heap[gb]? = some (.cells cs6.toArray 5 (0, 0))) (first | exact hkd | exact hkeep _ (bel_one _ _) | exact hkeep _ hb12 | exact hkeep _ hb11)
            (first
              | (go_at_call 10; refine (callH _ rfl).mono ?_; rintro e w11 ⟨rfl, hb11⟩)
              | (go_at_call 11; refine (callR _ hb11).mono ?_; rintro e w12 ⟨rfl, hb12⟩))
          go_wp2_with fail
          go_ret
          exact ⟨rfl, BF.trans (hb12.mono BF.size)⟩
        exact AllReadyH.nil
      exact AllReadyH.nil
    refine AllReadyH.cons rfl (fun KX hKX => ?_) ?_
    · go_simp
      refine hKX.out _ _ trivial (fun hHeld => ?_)
      clear hKX KX
      try simp only [Act.put, List.getElem_toArray, List.getElem_cons_succ, List.getElem_cons_zero, List.setIfInBounds_toArray, List.set_cons_zero, List.set_cons_succ]
      refine wpAnyH_ready (rs := [10]) (by kernel_rfl) (by simp) ?_
      refine AllReadyH.cons rfl (fun KX hKX => ?_) ?_
      · go_simp
        refine hKX.out _ _ trivial (fun hHeld => ?_)
        clear hKX KX
        try simp only [Act.put, List.getElem_toArray, List.getElem_cons_succ, List.getElem_cons_zero, List.setIfInBounds_toArray, List.set_cons_zero, List.set_cons_succ]
        refine wpAnyH_ready (rs := [11]) (by kernel_rfl) (by simp) ?_
        refine AllReadyH.cons rfl (fun KX hKX => ?_) ?_
        · go_simp
          refine (call8 _ (w1.heap.size + 1) (by rw [Hpv.out]; exact heap_two1 _ _ _) (bel_two _ _ _)).mono ?_
          rintro e w5 ⟨rfl, b5⟩
          refine hKX.out _ _ trivial (fun hHeld => ?_)
          clear hKX KX
          try simp only [Act.put, List.getElem_toArray, List.getElem_cons_succ, List.getElem_cons_zero, List.setIfInBounds_toArray, List.set_cons_zero, List.set_cons_succ]
          have bel0 := (bel_two w1 _ _).trans (b5.mono (bel_two w1 _ _).size)
          have hGle : w1.heap.size ≤ w1.heap.size := Nat.le_refl _
          refine wpAnyH_ready (rs := [13]) (by kernel_rfl) (by simp) ?_
          refine AllReadyH.cons rfl (fun KX hKX => ?_) AllReadyH.nil
          rw [if_pos (by rfl)]
          refine wp_store_row 26 (.tmp 7) (.tmp 47) rfl w1.heap.size (b8s D).toArray rfl rfl 26 (List.replicate 32 (.int .u8 0)).toArray (by exact (b5.block _ (by simp <;> omega)).trans (heap_two0 w1 _ _)) (by rw [h32]; kernel_rfl) (by rw [h32]; simp) (b8s_all D) ?_
          refine hKX.out _ _ trivial (fun hHeld => ?_)
          clear hKX KX
          refine wpAnyH_done (by kernel_rfl) ?_ _
          refine NoPanic.normal ?_
          try simp only [Act.put, List.getElem_toArray, List.getElem_cons_succ, List.getElem_cons_zero, List.setIfInBounds_toArray, List.set_cons_zero, List.set_cons_succ]
          have hG := setRow_heap _ _ _ (b8s D).toArray 26 (0, 0) (show _ = some (Obj.cells (List.replicate 32 (.int .u8 0)).toArray 26 (0, 0)) from (by exact (b5.block _ (by simp <;> omega)).trans (heap_two0 w1 _ _)))
          have bX := below_setRow bel0 hGle (b8s D).toArray
          obtain ⟨WY, hWY⟩ : ∃ WY : World, WY = w5.setRow w1.heap.size (b8s D).toArray := ⟨_, rfl⟩
          have hG : WY.heap[w1.heap.size]? = some (.cells (b8s D).toArray 26 (0, 0)) := by rw [hWY]; exact hG
          have bX : Below w1.heap.size w1 WY := by rw [hWY]; exact bX
          rw [← hWY]
          clear hWY bel0 b5
          have hgl : w1.heap.size < WY.heap.size := (Array.getElem?_eq_some_iff.1 hG).1
          clear hGle
          obtain ⟨G, hGe⟩ : ∃ G, G = w1.heap.size := ⟨_, rfl⟩
          rw [← hGe] at hG hgl ⊢
          clear hGe
          have hrY : Hid (Rd WY B 1 A n (b8s l)) := Hr1.out.keep (bX.mono (by omega))
          have h9 := rsum_any l A cap B WY (by rw [← Hn.out]; exact hrY.out) (by have := bX.size; omega) (by rw [← Hn.out]; exact hcap) (by rw [← Hn.out]; omega)
          rw [← Hn.out, ← HD.out] at h9
          have H9 := Lib.hid h9; clear h9
          clear call8 hs1l hs2l hs3l h32
          go_wp2_with fail
          refine H9.out.mono ?_
          rintro e w6 ⟨v6, rfl, o6, b6⟩
          rw [Owns8, HDl.out] at o6
          obtain ⟨A6, c6, rfl, hc6, _⟩ := own_form o6
          have hg6 := (b6.block G hgl).trans hG
          have hs6 := b6.size
          obtain ⟨gb, rfl, _, hgb⟩ := own_some o6 (by decide)
          obtain ⟨cs6, hb6, _, hct6⟩ := own_blk o6
          have hr6 : Hid (Rd w6 B 1 A n (b8s l)) := hrY.out.keep (b6.mono (by have := bX.size; omega))
          have B6 : Below w1.heap.size w1 w6 := bX.trans (b6.mono bX.size)
          clear H9 b6 hG o6 hrY
          go_wp2_with fail
          have hcv1 : ∀ W : World, W.heap[G]? = some (.cells (b8s D).toArray 26 (0, 0)) → (convert 22 9 (.slice (some ⟨G, 0, none⟩) 32 32)).run Try.prog W = .ok (.string ⟨D.toArray⟩) W := by
            intro W hW
            have := rd_string (w := W) (B := G + 1) (A := some ⟨G, 0, none⟩) D 32 (rd_row hW (by omega) (by simp [b8s]))
            rw [HDl.out] at this; exact this
          have hrd : ∀ W : World, W.heap[gb]? = some (.cells cs6.toArray 5 (0, 0)) → Rd W (gb + 1) 1 (some ⟨gb, 0, none⟩) 32 (b8s D) := by
            intro W hW
            refine ⟨by rw [b8s_length, HDl.out], fun _ => ⟨gb, 0, rfl, by omega, fun q hq => ?_⟩⟩
            rw [Nat.zero_add, cell_of_row W gb q cs6.toArray 5 (0, 0) hW, ← hct6]
            simp only [Nat.mul_one] at hq ⊢
            simp [hq]
          have hcv2 : ∀ W : World, W.heap[gb]? = some (.cells cs6.toArray 5 (0, 0)) → (convert 22 9 (.slice (some ⟨gb, 0, none⟩) 32 c6)).run Try.prog W = .ok (.string ⟨D.toArray⟩) W := by
            intro W hW
            have := rd_string (w := W) (B := gb + 1) (A := some ⟨gb, 0, none⟩) D c6 (by rw [HDl.out]; exact hrd W hW)
            rw [HDl.out] at this; exact this
          have hkeep : ∀ W : World, Below w6.heap.size w6 W → W.heap[G]? = some (.cells (b8s D).toArray 26 (0, 0)) ∧ W.heap[gb]? = some (.cells cs6.toArray 5 (0, 0)) :=
            fun W hb => ⟨(hb.block _ (by omega)).trans hg6, (hb.block _ hgb).trans hb6⟩
          have callH : ∀ W : World, W = w6.drew.alloc (.cells #[.slice A n cap] 22) → Calls Try.prog 10 #[.slice (some ⟨w6.heap.size, 0, none⟩) 1 1] W fun e w' => e = .returned (.string ⟨(hexOf D).toArray⟩) ∧ Below w6.heap.size w6 w' := by
            rintro W rfl
            have hok : ∀ p ∈ [(⟨A, cap, l⟩ : Part)], p.ok w6.drew w6.drew.heap.size := by
              intro p hp
              simp only [List.mem_cons, List.not_mem_nil, or_false] at hp
              subst hp
              refine ⟨?_, by show l.length ≤ cap; rw [← Hn.out]; exact hcap⟩
              show Rd w6.drew w6.drew.heap.size 1 A l.length (b8s l)
              rw [← Hn.out]; exact Rd.more hr6.out (by show B ≤ w6.heap.size; have := B6.size; omega)
            obtain ⟨h1, h2, h3⟩ := partsAt_list w6.drew [⟨A, cap, l⟩] hok
            have hv : [(⟨A, cap, l⟩ : Part)].map Part.val = [.slice A n cap] := by simp only [List.map_cons, List.map_nil, Part.val, ← Hn.out]
            rw [hv] at h1 h2 h3
            have ha : allBytes [(⟨A, cap, l⟩ : Part)] = l := by simp [allBytes]
            have h4 := hex_any _ _ 1 _ _ h1 (Nat.le_refl _) (Nat.le_refl 1) (by show 1 ≤ 1000; decide) (by rw [ha, ← Hn.out]; omega)
            rw [ha, ← HD.out] at h4
            refine h4.mono ?_
            rintro e w' ⟨rfl, hb⟩
            exact ⟨rfl, (bel_one w6 _).trans (hb.mono (bel_one w6 _).size)⟩
          have callR : ∀ W : World, Below w6.heap.size w6 W → Calls Try.prog 11 #[.slice (some ⟨gb, 0, none⟩) 32 c6] W fun e w' => e = .returned (.string ⟨(hexOf D).toArray⟩) ∧ Below w6.heap.size w6 w' := by
            intro W hb
            have h1 := refHex_any D (some ⟨gb, 0, none⟩) c6 (gb + 1) W (by rw [HDl.out]; exact hrd W (hkeep W hb).2) (by rw [HDl.out]; exact hc6) (by rw [HDl.out]; decide)
            rw [HDl.out] at h1
            refine h1.mono ?_
            rintro e w' ⟨rfl, q, rfl⟩
            exact ⟨rfl, hb.trans ⟨rfl, rfl, rfl, Nat.le_refl _, fun _ _ => rfl⟩⟩
          have hkd := hkeep _ ((Below.refl _ w6).drew)
          have BF : Below w.heap.size w w6 := Bw1.trans (B6.mono Bw1.size)
          clear hr6 hrd hct6 hg6 hb6 hs6 B6 Hr1
          go_region_held3 (fun W => W.heap[G]? = some (.cells (b8s D).toArray 26 (0, 0)) ∧ W.heap[gb]? = some (.cells cs6.toArray 5 (0, 0))) (first | exact hkd | exact hkeep _ (bel_one _ _) | exact hkeep _ hb12 | exact hkeep _ hb11)
            (first
              | (go_at_call 10; refine (callH _ rfl).mono ?_; rintro e w11 ⟨rfl, hb11⟩)
              | (go_at_call 11; refine (callR _ hb11).mono ?_; rintro e w12 ⟨rfl, hb12⟩))
          go_wp2_with fail
          go_ret
          exact ⟨rfl, BF.trans (hb12.mono BF.size)⟩
        exact AllReadyH.nil
      exact AllReadyH.nil
    exact AllReadyH.nil
end Go.Proofs.Ytknoonkjkdjkbaa
