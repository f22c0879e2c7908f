/-
  Sum: the padding, the chunks, the digest's bytes.
-/
import Derived.Test.YtknoonkjkdjkbaaOut
namespace Go.Proofs.Ytknoonkjkdjkbaa
open Go.RowKit Go.Shelf

attribute [local go_sem] Oper.semAt_some

set_option maxHeartbeats 4000000 in
set_option maxRecDepth 100000 in
theorem sum_any (ps : List Part) (A : Option Addr) (cap B : Nat) (w : World) (hp : partsAt w B A ps) (hB0 : B ≤ w.heap.size) (hcap : ps.length ≤ cap) (hn : ps.length ≤ 1000) (hl : (allBytes ps).length ≤ 5000) :
    Calls Try.prog 8 #[.slice A ps.length cap] w fun e w' => e = .returned (.agg (b8s (digest (allBytes ps))).toArray) ∧ Below w.heap.size w w' := by
  obtain ⟨l, hL⟩ : ∃ l, l = allBytes ps := ⟨_, rfl⟩
  obtain ⟨np, hN⟩ : ∃ np, np = ps.length := ⟨_, rfl⟩
  have HC := Lib.hid (concat_any ps A cap B)
  rw [← hL] at hl ⊢
  rw [← hN] at hcap hn ⊢
  have Hp := Lib.hid hp; clear hp
  have HN := Lib.hid hN; clear hN
  have HL := Lib.hid hL; clear hL
  obtain ⟨n, hn2⟩ : ∃ n, n = l.length := ⟨_, rfl⟩
  rw [← hn2] at hl
  have Hn := Lib.hid hn2; clear hn2
  refine (callsIn_wide (n := 5)).1 ?_
  refine callsIn_of_wp_marks Try.func8 rfl trivial ?_ rfl
  simp only [Try.ntmps8, List.size_toArray, List.length_cons, List.length_nil, Nat.reduceAdd, Nat.reduceSub, Array.replicate_succ, Array.replicate_zero, List.push_toArray, List.append_toArray, List.nil_append, List.cons_append]
  refine wpIn_wide.2 ?_
  go_wp2_with fail
  obtain ⟨w1, hw1⟩ : ∃ w1, w1 = w.alloc (.cells (Array.replicate 32 (.int .u8 0)) 26) := ⟨_, rfl⟩
  have hB1 : Below w.heap.size w w1 := by rw [hw1]; exact (Below.refl _ w).alloc (Nat.le_refl _) _
  have hs1 : w1.heap.size = w.heap.size + 1 := by rw [hw1]; simp
  have hk1 : Blk w1 w.heap.size 26 (List.replicate 32 (.int .u8 0)) := by rw [hw1]; exact blk_new w 26 _
  refine calls_at (w1 := w1) (by rw [hw1]; rfl) ?_
  clear hw1
  have h14 := HC.out w1 (partsAt_keep Hp.out (hB1.mono hB0)) (by omega) (by rw [← HN.out]; exact hcap) (by rw [← HN.out]; exact hn) (by rw [← HL.out, ← Hn.out]; omega)
  rw [← HN.out, ← HL.out, ← Hn.out] at h14
  refine h14.mono ?_
  rintro e w2 ⟨v2, rfl, o2, b2⟩
  obtain ⟨A2, c2, rfl, _, _⟩ := own_form o2
  have O2 := Lib.hid o2
  have hs2 := b2.size
  clear h14 HC o2
  have hd2 : Below w.heap.size w w2 := hB1.trans (b2.mono (by omega))
  have hk2 := blk_below hk1 b2 (by omega)
  clear hk1 Hp
  go_wp2_with (at_builtin; refine wpList_push rfl (.tmp 17) (.tmp 18) 22 rfl w1.heap.size 5 (.int .u8 0) 1 1 Try.underlying22 Try.info5 rfl (by decide) _ _ _ rfl O2.out _ 1 (by decide) rfl rfl rfl (by omega) (by omega) (by omega) ?_; intro g3 cap3 w3 hown3 hg3 hb3; have Hown3 := Lib.hid hown3; clear hown3)
  obtain ⟨D0, hD0⟩ : ∃ D0, D0 = w1.heap.size := ⟨_, rfl⟩
  rw [← hD0] at b2 hb3 Hown3 hs2
  have h10 : D0 = w.heap.size + 1 := by omega
  have hb13 : Below D0 w1 w3 := b2.trans hb3
  have hk3 := blk_below hk2 hb3 (by omega)
  have hd3 : Below w.heap.size w w3 := hd2.trans (hb3.mono (by omega))
  clear hk2 hd2 O2 hb3 hB1 hb13 b2
  have Hown3 : Hid (w3.ownsRow D0 5 1 (.slice (some ⟨g3, 0, none⟩) (n + 1) cap3) (n + 1) (b8s (l ++ [128] ++ List.replicate 0 0))) := by
    have := Hown3.out
    simp only [Hid, List.replicate_zero, List.append_nil, b8s_append]; exact this
  go_loopw [3] (fun v wr => ∃ z L cap : Nat, ∃ A, z ≤ padZ n ∧ L = n + 1 + z ∧ v = .slice A L cap ∧ L ≤ cap ∧ wr.ownsRow D0 5 1 v L (b8s (l ++ [128] ++ List.replicate z 0)) ∧ Below w.heap.size w wr ∧ Blk wr w.heap.size 26 (List.replicate 32 (.int .u8 0)) ∧ D0 ≤ wr.heap.size)
    (fun v _ => match v with | .slice _ L _ => n + 1 + padZ n - L | _ => 0)
  case atStart =>
    obtain ⟨A', c', e, hc, _⟩ := own_form Hown3.out
    exact ⟨0, n + 1, cap3, _, by omega, rfl, rfl, by injection e; omega, Hown3.out, hd3, hk3, by have := blk_lt hk3; omega⟩
  case round =>
    obtain ⟨z, L, cap', A', hz, hL, rfl, hc, hown, hB, hkr, hbs⟩ := hrel
    have hpz : padZ n < 64 := Nat.mod_lt _ (by decide)
    have Hown := Lib.hid hown; clear hown Hown3 hd3 hk3
    have hL5 : L ≤ 5100 := by omega
    by_cases hzp : z < padZ n
    · have hm : ((L : Int) % 64 != 56) = true := by
        rw [bne_iff_ne]; unfold padZ at hzp; omega
      have HL' := Lib.hid hL; clear hL
      go_wp2_with (at_builtin; refine wpList_push rfl (.tmp 24) (.tmp 25) 22 rfl D0 5 (.int .u8 0) 1 1 Try.underlying22 Try.info5 rfl (by decide) _ _ _ rfl Hown.out _ 1 (by decide) rfl rfl rfl (by omega) (by omega) (by omega) ?_; intro g4 cap4 w4 hown4 hg4 hb4; have Hown4 := Lib.hid hown4; clear hown4)
      have e := pad_snoc1 (l ++ [128]) z
      rw [e] at Hown4
      obtain ⟨_, _, e3, hc3, _⟩ := own_form Hown4.out
      have hsz4 := hb4.size
      go_roundw
      case rel => exact ⟨z + 1, L + 1, cap4, _, by omega, by have := HL'.out; omega, rfl, by injection e3; omega, Hown4.out, hB.trans (hb4.mono (by omega)), blk_below hkr hb4 (by omega), by omega⟩
      case measure => have := HL'.out; simp; omega
    · obtain rfl : z = padZ n := by omega
      have hm : ((L : Int) % 64 != 56) = false := by
        rw [bne_eq_false_iff_eq]; unfold padZ at hL; omega
      have HL' := Lib.hid hL; clear hL
      go_wp2_with fail
      have e8 : ((n : Int) * 8) = ((8 * n : Nat) : Int) := by omega
      rw [e8]
      refine (eight_any (8 * n) _ (by omega)).mono ?_
      rintro e w5 ⟨v5, rfl, o5, b5⟩
      have hs5 := b5.size
      have hk5 := blk_below hkr b5 (by omega)
      have hd5 : Below w.heap.size w w5 := hB.trans (b5.mono (by omega))
      have Hown5 : Hid (w5.ownsRow D0 5 1 (.slice A' L cap') L (b8s (l ++ [128] ++ List.replicate (padZ n) 0))) := own_keep Hown.out b5
      rw [Owns8, be8_length] at o5
      obtain ⟨A5, c5, rfl, hc5, _⟩ := own_form o5
      have Hrd5 : Hid (Rd w5 w5.heap.size 1 A5 8 (b8s (be8 (8 * n)))) := Rd.of_own o5
      have Hone := Lib.hid (b8s_one (be8 (8 * n)))
      clear o5 b5 Hown hkr hB e8
      go_wp2_with (at_builtin; refine wpList_appendRd rfl (.tmp 27) (.tmp 29) 22 rfl D0 5 (.int .u8 0) 1 1 Try.underlying22 Try.info5 rfl (by decide) _ L _ rfl Hown5.out w5.heap.size A5 8 c5 _ rfl Hrd5.out Hone.out (by omega) (by omega) (by omega) ?_; intro A6 cap6 w6 hown6 hb6 _; have Hown6 := Lib.hid hown6; clear hown6)
      have hP : Hid (L + 8 = 64 * blocksOf l) := by
        have h2 := HL'.out; have h3 := Hn.out
        unfold padZ at h2; rw [Hid]; unfold blocksOf; omega
      have hbl : blocksOf l ≤ 80 := by unfold blocksOf; have := Hn.out; omega
      have Hpad : Hid (w6.ownsRow D0 5 1 (.slice A6 (64 * blocksOf l) cap6) (64 * blocksOf l) (b8s (padded l))) := by
        have h := Hown6.out
        rw [hP.out, ← b8s_append, Hn.out] at h
        exact h
      rw [hP.out]
      have hk6 := blk_below hk5 hb6 (by omega)
      have hd6 : Below w.heap.size w w6 := hd5.trans (hb6.mono (by omega))
      have hs6 : D0 ≤ w6.heap.size := by have := hb6.size; omega
      clear hk5 hd5 hb6 Hown6 Hown5 Hrd5 Hone HL' hm hzp hP hL5
      refine (beginnings_any _).mono ?_
      rintro e w7 ⟨rfl, b7⟩
      have hs7 := b7.size
      go_wp2_with fail
      refine (rounds_any _).mono ?_
      rintro e w8 ⟨rfl, b8⟩
      have hs8 := b8.size
      have b68 : Below w6.heap.size w6 w8 := b7.trans (b8.mono (by omega))
      have Hown8 : Hid (w8.ownsRow D0 5 1 (.slice A6 (64 * blocksOf l) cap6) (64 * blocksOf l) (b8s (padded l))) := own_keep Hpad.out b68
      have hk8 := blk_below hk6 b68 (by omega)
      have hd8 : Below w.heap.size w w8 := hd6.trans (b68.mono (by omega))
      have hs80 : D0 ≤ w8.heap.size := by omega
      clear b7 b8 b68 Hpad hk6 hd6
      go_wp2_with (first
        | refine wpList_alloc46 rfl rfl (some 6) rfl (w8.heap.size + 1) (by simp) ?_
        | refine wpList_store_row rfl 44 (.tmp 5) (.tmp 31) rfl w8.heap.size hTab.vals.toArray rfl rfl 44 S8.zero.vals.toArray (by exact blk_alloc (blk_new w8 44 S8.zero.vals.toArray) _) (by kernel_rfl) rfl (vals_one _) ?_
        | refine wpList_store_row rfl 46 (.tmp 6) (.tmp 32) rfl (w8.heap.size + 1) (w32s kTab).toArray rfl rfl 46 z64 (by exact row46 w8 _ _ _) (by kernel_rfl) (by kernel_rfl) kRow_one ?_)
      obtain ⟨hkh, hkk, b9, hs9⟩ := rows_laid w8 S8.zero.vals.toArray z64 hTab.vals.toArray (w32s kTab).toArray
      obtain ⟨w9, hw9⟩ : ∃ w9, w9 = ((((w8.alloc (.cells S8.zero.vals.toArray 44)).alloc (.cells z64 46)).setRow w8.heap.size hTab.vals.toArray).setRow (w8.heap.size + 1) (w32s kTab).toArray) := ⟨_, rfl⟩
      rw [← hw9] at hkh hkk b9 hs9
      refine calls_at (w1 := w9) hw9.symm ?_
      clear hw9
      have Bd9 := (hd8.trans (b9.mono (by omega)))
      have Hown9 : Hid (w9.ownsRow D0 5 1 (.slice A6 (64 * blocksOf l) cap6) (64 * blocksOf l) (b8s (padded l))) := own_keep Hown8.out b9
      have hk9 := blk_below hk8 b9 (by omega)
      clear hd8 hk8 b9
      have hmpos : 0 < blocksOf l := by unfold blocksOf; omega
      obtain ⟨g6, rfl, hg6, hg8⟩ := own_some Hown8.out (by omega)
      obtain ⟨cs6, hB6, hcs6, hct6⟩ := own_blk Hown9.out
      have hcap6 : 64 * blocksOf l ≤ cap6 := by obtain ⟨_, _, e, hc, _⟩ := own_form Hown9.out; injection e; omega
      have hcm6 : (cap6 : Int) < 9223372036854775808 := by have := own_max Hown9.out; unfold maxLen at this; omega
      have Hcell : Hid (∀ k j, k < blocksOf l → j < 64 → cs6[64 * k + j]? = some (.int .u8 (bv8 (((padded l).drop (64 * k)).getD j 0)))) := by
        intro k j hk hj
        have h1 : (b8s (padded l))[64 * k + j]? = cs6[64 * k + j]? := by
          rw [← hct6, List.getElem?_take]; rw [if_pos (by omega)]
        rw [← h1, b8s_getD _ _ (by rw [padded_length]; omega)]
        simp [List.getD_eq_getElem?_getD]
      clear hct6 Hown9 Hown8
      refine ((callsIn_wide (n := 3)).1 (chunk_in Fence.wide 3 trivial rfl _ _ _ w9)).mono ?_
      rintro e w10 ⟨rfl, hw10⟩
      have hs10 : w10.heap.size = w8.heap.size + 4 := by rw [hw10]; simp; omega
      have hc1 : w10.cell? ⟨w9.heap.size, 0, none⟩ = some (.slice (some ⟨g6, 0, none⟩) (64 * blocksOf l) cap6) := by
        rw [hw10]; exact blk_cell (blk_alloc (blk_new w9 22 _) _) 0
      have hc2 : w10.cell? ⟨w9.heap.size + 1, 0, none⟩ = some (.int .i64 64) := by
        have := blk_new (w9.alloc (.cells #[.slice (some ⟨g6, 0, none⟩) (64 * blocksOf l) cap6] 22)) 3 #[.int .i64 64]
        rw [World.size_alloc] at this
        rw [hw10]; exact blk_cell this 0
      have b10 : Below w9.heap.size w9 w10 := by rw [hw10]; exact ((Below.refl _ w9).alloc (Nat.le_refl _) _).alloc (by simp) _
      have Bd10 := Bd9.trans (b10.mono (by omega))
      have hk10 := blk_below hk9 b10 (by omega)
      have hkh10 := blk_below hkh b10 (by omega)
      have hkk10 := blk_below hkk b10 (by omega)
      have hB10 := blk_below hB6 b10 (by omega)
      rw [hs9] at hc1 hc2
      clear hw10 b10 hkh hkk hk9 Bd9 hB6
      go_wp2_with fail
      refine (wpIn_wide (n := 5)).1 ?_
      have hseq := chunk_stops 4 (by decide) (w8.heap.size + 2) (w8.heap.size + 2 + 1) g6 cap6 (blocksOf l) (by omega) hcap6 hcm6 w10 (by omega) (by omega) hc1 hc2
      apply wpIn_rangeFunc_ownG (α := Ix (blocksOf l)) (encs := fun x : Ix (blocksOf l) => #[Value.slice (some ⟨g6, 64 * x.1, none⟩) 64 64]) (Kp := Same2 (w8.heap.size + 2) (w8.heap.size + 2 + 1)) (S := fun ys => ∃ hk : blocksOf l ≤ blocksOf l, ys = upto (blocksOf l) (blocksOf l) hk) (Sp := fun _ => True) (N := blocksOf l) rfl (by decide) (gf := 23) (lb := #[.pointer (some ⟨w8.heap.size + 2, 0, none⟩), .pointer (some ⟨w8.heap.size + 2 + 1, 0, none⟩)]) rfl trivial (enters_of Try.func23 (by kernel_rfl) rfl)
        hseq same2_t (same2_b (by omega) (by omega)) (Below.refl _ _) (fun _ => rfl)
        (fun pre W => (Blk W w8.heap.size 44 (foldH (padded l) pre).vals ∧ Blk W (w8.heap.size + 1) 46 (w32s kTab)) ∧ Below w8.heap.size w10 W)
        (fun _ _ _ => False)
        ?own ?ownx ?start _ ?assign ?body ?done ?stop
      case assign =>
        intro l' x W K hK
        gi_wp2
        exact hK
      case own =>
        rintro pre X Y row ⟨⟨h1, h2⟩, h3⟩ hg hr
        have hr' : ∀ r, row = some r → w8.heap.size + 4 ≤ r := fun r e => by have := (hr r e).1; omega
        exact ⟨⟨blk_kept h1 hg hr' (by omega), blk_kept h2 hg hr' (by omega)⟩, h3.grown hg (by have := h3.size; omega) (fun k e => by have := hr' k e; omega)⟩
      case ownx => exact fun _ _ _ _ _ hs _ _ => hs
      case start => exact ⟨⟨hkh10, hkk10⟩, Below.refl _ _⟩
      case body =>
        rintro l' pre ⟨x, hxm⟩ W ⟨⟨h1, h2⟩, h3⟩ hlt
        have Hc : Hid (∀ j, j < 64 → W.cell? ⟨g6, 64 * x + j, none⟩ = some (.int .u8 (bv8 (((padded l).drop (64 * x)).getD j 0)))) := by
          intro j hj
          rw [blk_cell (blk_below hB10 h3 hg8) (64 * x + j)]
          exact Hcell.out x j hxm hj
        have hg6W : g6 < W.heap.size := by have := h3.size; omega
        obtain ⟨G, hG⟩ : ∃ G, G = foldH (padded l) (pre ++ [⟨x, hxm⟩]) := ⟨_, rfl⟩
        have hGs := hG
        rw [foldH_snoc] at hGs
        have HG := Lib.hid hG
        obtain ⟨F, hF⟩ : ∃ F, F = foldH (padded l) pre := ⟨_, rfl⟩
        rw [← hF] at h1 hGs
        have Hcall : Hid (Calls Try.prog 19 #[.agg F.vals.toArray, .slice (some ⟨g6, 64 * x, none⟩) 64 64, .agg (w32s kTab).toArray] W fun e w' => e = .returned (.agg G.vals.toArray) ∧ Below W.heap.size W w') := by
          rw [hGs]; exact block_any F kTab ((padded l).drop (64 * x)) g6 (64 * x) 64 W rfl hg6W Hc.out (by decide)
        have H1 := Lib.hid h1; have H2 := Lib.hid h2; clear h1 h2 hGs hG hF Hc
        gi_wp2_with (first
          | refine wpListIn_load_row rfl 44 _ rfl w8.heap.size rfl 44 F.vals.toArray (0, 0) _ H1.out Try.underlying44 rfl (by kernel_rfl) ?_
          | refine wpListIn_load_row rfl 46 _ rfl (w8.heap.size + 1) rfl 46 (w32s kTab).toArray (0, 0) _ H2.out Try.underlying46 rfl (by kernel_rfl) ?_)
        refine ⟨trivial, (CallsIn.inRound l' (callsIn_wide.2 Hcall.out)).mono ?_⟩
        rintro e W2 ⟨rfl, b2⟩
        have hw8W : w8.heap.size + 4 ≤ W.heap.size := by have := h3.size; omega
        have K2 := Lib.hid (blk_below H1.out b2 (by omega))
        have K3 := Lib.hid (blk_below H2.out b2 (by omega))
        have hb2s := b2.size
        gi_wp2_with (first
          | refine wpListIn_store_row rfl 44 (.tmp 5) (.tmp 39) rfl w8.heap.size G.vals.toArray rfl rfl 44 F.vals.toArray K2.out (by kernel_rfl) rfl (vals_one _) ?_)
        refine ⟨⟨by simp; omega, fun k o hk ho _ => ?_⟩, ⟨?_, ?_⟩, ⟨?_, ?_⟩, ?_⟩
        · rw [setRow_other _ _ _ _ (by omega)]
          exact (b2.block k (Array.getElem?_eq_some_iff.1 ho).1).trans ho
        · rw [setRow_other _ _ _ _ (by omega)]; exact b2.block _ (by omega)
        · rw [setRow_other _ _ _ _ (by omega)]; exact b2.block _ (by omega)
        · show Blk _ _ _ (foldH (padded l) (pre ++ [⟨x, hxm⟩])).vals
          rw [← HG.out]
          exact setRow_heap _ _ _ _ 44 (0, 0) K2.out
        · rw [Blk, setRow_other _ _ _ _ (by omega)]; exact K3.out
        · exact below_setRow (h3.trans (b2.mono (by omega))) (Nat.le_refl _) _
      case stop =>
        rintro D c pre W _ _ h _
        exact h.elim
      case done =>
        rintro D ys W hD ⟨_, rfl⟩ ⟨⟨h1, h2⟩, h3⟩ hK
        rw [foldH_upto] at h1
        obtain ⟨S, hS⟩ : ∃ S, S = hashTo (padded l) (blocksOf l) := ⟨_, rfl⟩
        rw [← hS] at h1
        have HS := Lib.hid hS; clear hS
        have bW : Below w.heap.size w W := Bd10.trans (h3.mono (by omega))
        have kW := blk_below hk10 h3 (by omega)
        have hsW : w8.heap.size + 4 ≤ W.heap.size := by have := h3.size; omega
        have P1 := Lib.hid h1; have PW := Lib.hid kW
        clear h1 h2 h3 kW hk10 Bd10 hseq Hcell hB10 hkh10 hkk10 hc1 hc2 hcm6 hcs6
        go_wp2_with (first | refine wpList_load_row rfl 44 _ rfl w8.heap.size rfl 44 S.vals.toArray (0, 0) _ (blk_alloc P1.out _) Try.underlying44 rfl (by kernel_rfl) ?_)
        go_loopw [41] (fun i wr => ∃ k : Nat, k ≤ 8 ∧ i = .int .i64 k ∧ Blk wr W.heap.size 26 (b8s (outW S k)) ∧ Below W.heap.size W wr)
          (fun i _ => 8 - (intOf i).toNat)
        case atStart => exact ⟨0, by omega, rfl, blk_new W 26 _, (Below.refl _ W).alloc (Nat.le_refl _) _⟩
        case round =>
          obtain ⟨k, hk, rfl, hb, hB⟩ := hrel
          by_cases hk8 : k < 8
          · have hx : S.vals.toArray[k]? = some (.int .u32 (wv (S.list.getD k 0))) := by simpa using list_at S k hk8
            obtain ⟨x, hxe⟩ : ∃ x, x = S.list.getD k 0 := ⟨_, rfl⟩
            rw [← hxe] at hx
            have Hxe := Lib.hid hxe; have Hx := Lib.hid hx; clear hxe hx
            have f0 := blk_frozen hb (4 * k)
            have f1 := blk_frozen hb (4 * k + 1)
            have f2 := blk_frozen hb (4 * k + 2)
            have f3 := blk_frozen hb (4 * k + 3)
            have c0 : wr.cell? ⟨W.heap.size, 4 * k, none⟩ = some (.int .u8 0) := (blk_cell hb (4 * k)).trans (outW_at S k 0 hk8 (by decide))
            have c1 : wr.cell? ⟨W.heap.size, 4 * k + 1, none⟩ = some (.int .u8 0) := (blk_cell hb (4 * k + 1)).trans (outW_at S k 1 hk8 (by decide))
            have c2 : wr.cell? ⟨W.heap.size, 4 * k + 2, none⟩ = some (.int .u8 0) := (blk_cell hb (4 * k + 2)).trans (outW_at S k 2 hk8 (by decide))
            have c3 : wr.cell? ⟨W.heap.size, 4 * k + 3, none⟩ = some (.int .u8 0) := (blk_cell hb (4 * k + 3)).trans (outW_at S k 3 hk8 (by decide))
            have l8 : (k : Int) < 8 := by omega
            have hb' := Lib.hid hb; clear hb
            go_wp2_with (first | refine wpList_index44 rfl (.tmp 40) (.tmp 41) rfl S.vals.toArray k (.int .u32 (wv x)) rfl rfl hk8 Hx.out ?_)
            go_roundw
            case rel =>
              refine ⟨k + 1, by omega, by go_num, ?_, (((hB.setCell (Nat.le_refl _) _).setCell (Nat.le_refl _) _).setCell (Nat.le_refl _) _).setCell (Nat.le_refl _) _⟩
              rw [← outW_set S k hk8 x Hxe.out]
              exact blk_set (blk_set (blk_set (blk_set hb'.out _ _) _ _) _ _) _ _
            case measure => simp [intOf]; omega
          · obtain rfl : k = 8 := by omega
            obtain ⟨R, hR⟩ : ∃ R, R = bytesOf S.list := ⟨_, rfl⟩
            rw [outW_last, ← hR] at hb
            have hR32 : (b8s R).toArray.size = 32 := by
              rw [hR]; simp [b8s, bytesOf_length, S8.list]
            have HR : Hid (R = digest l) := by rw [Hid, hR, HS.out]; rfl
            have hb' := Lib.hid hb; clear hb hR
            have kw2 := Lib.hid (blk_below PW.out hB (by omega))
            have hKr := (hB.block D (Array.getElem?_eq_some_iff.1 hK).1).trans hK
            go_wp2_with (first
              | refine wpList_load_row rfl 26 _ rfl W.heap.size rfl 26 (b8s R).toArray (0, 0) _ hb'.out Try.underlying26 rfl (by rw [hR32]; kernel_rfl) ?_
              | refine wpList_store_row rfl 26 (.tmp 2) (.tmp 72) rfl w.heap.size (b8s R).toArray rfl rfl 26 (List.replicate 32 (.int .u8 0)).toArray (by exact kw2.out) (by rw [hR32]; kernel_rfl) (by rw [hR32]; simp) (b8s_all R) ?_)
            have hKs : (wr.setRow w.heap.size (b8s R).toArray).heap[D]? = some (.deferred (some [])) := by
              rw [setRow_other _ _ _ _ (by omega)]; exact hKr
            refine ⟨by simp, .inl ⟨_, _, rfl, run_takeDeferred hKs, ?_⟩⟩
            have hrow : ((wr.setRow w.heap.size (b8s R).toArray).putObj D (.deferred none)).heap[w.heap.size]? = some (.cells (b8s R).toArray 26 (0, 0)) := by
              rw [World.putObj_heap_other (by omega)]
              exact setRow_heap _ _ _ _ 26 (0, 0) kw2.out
            refine ⟨.agg (b8s R).toArray, ?_, ?_⟩
            · rw [results_cell1 Try.results8]
              exact run_loadVar_row _ _ 26 26 _ (0, 0) _ hrow Try.underlying26 rfl (by rw [hR32]; kernel_rfl)
            · refine ⟨by rw [HR.out], ?_⟩
              exact (below_setRow (bW.trans (hB.mono (by omega))) (Nat.le_refl _) _).trans (belowK_b (w := w) (Nat.le_refl _) _ D _ _ (by omega) hKs rfl rfl)
end Go.Proofs.Ytknoonkjkdjkbaa
