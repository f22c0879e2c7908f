/-
  ShaHex's walk.
-/
import Derived.Test.YtknoonkjkdjkbaaKey
namespace Go.Proofs.Ytknoonkjkdjkbaa
open Go.RowKit Go.Shelf

/-- The digits of byte k. -/
theorem hex_cut (D : List UInt8) (k : Nat) (hk : k < D.length) : (⟨(hexOf D).toArray⟩ : ByteArray).extract (2 * k) (2 * k + 2) = ⟨#[hexD ((D.getD k 0).toNat / 16), hexD ((D.getD k 0).toNat % 16)]⟩ := by
  have hd : D = D.take k ++ (D.getD k 0 :: D.drop (k + 1)) := by
    rw [List.getD_eq_getElem?_getD, List.getElem?_eq_getElem hk, Option.getD_some, List.getElem_cons_drop, List.take_append_drop]
  have hh : hexOf D = hexOf (D.take k) ++ ([hexD ((D.getD k 0).toNat / 16), hexD ((D.getD k 0).toNat % 16)] ++ hexOf (D.drop (k + 1))) := by
    conv => lhs; rw [hd]
    simp [hexOf]
  have hl : (hexOf (D.take k)).length = 2 * k := by rw [hexOf_length, List.length_take]; omega
  rw [hh]
  apply ByteArray.ext
  rw [ByteArray.data_extract]
  apply Array.ext'
  simp only [Array.toList_extract, List.extract_eq_take_drop, Nat.add_sub_cancel_left]
  rw [List.drop_append_of_le_length (by omega), List.drop_of_length_le (by omega)]
  rfl
theorem law_slice (D : List UInt8) (k : Nat) (hD : D.length = 32) (hk : k < 32) (w : World) :
    (Instr.slice 9 (.string ⟨(hexOf D).toArray⟩) (some (.int .i64 (2 * (k : Int)))) (some (.int .i64 (2 * (k : Int) + 2))) none).run Try.prog w = .ok (.string ⟨#[hexD ((D.getD k 0).toNat / 16), hexD ((D.getD k 0).toNat % 16)]⟩) w := by
  have hsz : (⟨(hexOf D).toArray⟩ : ByteArray).size = 64 := by simp [ByteArray.size, hexOf_length, hD]
  rw [run_slice_string_if w 9 _ .i64 .i64 _ _ Try.underlying9]
  rw [if_pos ⟨by omega, by rw [hsz]; omega⟩, if_pos (by omega)]
  rw [← hex_cut D k (by omega)]
  have e1 : ((2 * (k : Int))).toNat = 2 * k := by omega
  have e2 : ((2 * (k : Int) + 2)).toNat = 2 * k + 2 := by omega
  rw [e1, e2]

theorem be8_small (n : Nat) (h : n ≤ 1000) : (#[.int .u8 0, .int .u8 0, .int .u8 0, .int .u8 0, .int .u8 0, .int .u8 0, .int .u8 ((n : Int) / 256), .int .u8 ((n : Int) % 256)] : Array Value) = (b8s (be8 n)).toArray := by
  have hr : List.range 8 = [0, 1, 2, 3, 4, 5, 6, 7] := rfl
  have h0 : n / 72057594037927936 = 0 := Nat.div_eq_of_lt (by omega)
  have h1 : n / 281474976710656 = 0 := Nat.div_eq_of_lt (by omega)
  have h2 : n / 1099511627776 = 0 := Nat.div_eq_of_lt (by omega)
  have h3 : n / 4294967296 = 0 := Nat.div_eq_of_lt (by omega)
  have h4 : n / 16777216 = 0 := Nat.div_eq_of_lt (by omega)
  have h5 : n / 65536 = 0 := Nat.div_eq_of_lt (by omega)
  have h6 : n / 256 < 256 := by omega
  simp only [b8s, be8, hr, List.map_cons, List.map_nil]
  simp [h0, h1, h2, h3, h4, h5, UInt8.toNat_ofNat]
  omega
theorem row_laid (w : World) (c cs : Array Value) (t : TypeId) : ((w.alloc (.cells c t)).setRow w.heap.size cs).heap[w.heap.size]? = some (.cells cs t (0, 0)) :=
  setRow_heap _ _ _ _ t (0, 0) (heap_alloc_new w _)
/-- One list of parts, laid in a new block. -/
theorem partsAt_list (w : World) (ps : List Part) (h : ∀ p ∈ ps, p.ok w w.heap.size) :
    let W := w.alloc (.cells (ps.map Part.val).toArray 22)
    partsAt W W.heap.size (some ⟨w.heap.size, 0, none⟩) ps ∧ Below w.heap.size w W ∧ W.heap.size = w.heap.size + 1 := by
  intro W
  have hs : W.heap.size = w.heap.size + 1 := by simp [W]
  have hb : Below w.heap.size w W := (Below.refl _ w).alloc (Nat.le_refl _) _
  refine ⟨⟨rd_row (fr := (0, 0)) (t := 22) (World.alloc_heap_new w _) (by omega) (by simp), fun p hp => ?_⟩, hb, hs⟩
  obtain ⟨h1, h2⟩ := h p hp
  exact ⟨(h1.keep hb).more (by omega), h2⟩

set_option maxHeartbeats 4000000 in
set_option maxRecDepth 100000 in
theorem shaHex_any (a b : List UInt8) (Aa Ab : Option Addr) (ca cb B : Nat) (w : World) (ha : Rd w B 1 Aa a.length (b8s a)) (hb : Rd w B 1 Ab b.length (b8s b)) (hca : a.length ≤ ca) (hcb : b.length ≤ cb) (hB0 : B ≤ w.heap.size)
    (h63 : a.length < 9223372036854775808) (h64 : b.length < 9223372036854775808) :
    Calls Try.prog 6 #[.slice Aa a.length ca, .slice Ab b.length cb] w fun e w' => e = .returned (.bool true) ∧ Below w.heap.size w w' := by
  obtain ⟨na, hna⟩ : ∃ na, na = a.length := ⟨_, rfl⟩
  obtain ⟨nb, hnb⟩ : ∃ nb, nb = b.length := ⟨_, rfl⟩
  have Ha := Lib.hid ha; have Hb := Lib.hid hb; clear ha hb
  rw [← hna] at hca h63 Ha ⊢
  rw [← hnb] at hcb h64 Hb ⊢
  have Hna := Lib.hid hna; have Hnb := Lib.hid hnb; clear hna hnb
  go_enter Try.func6, Try.ntmps6
  go_wp2_with fail
  refine (first_any w).mono ?_
  rintro e w1 ⟨rfl, b1⟩
  have hs1 := b1.size
  by_cases hbig : max na nb > 1000
  · have hm : decide (max (na : Int) (nb : Int) > 1000) = true := by rw [decide_eq_true_eq]; omega
    go_wp2_with fail
    go_ret
    exact ⟨rfl, b1⟩
  · have hm : decide (max (na : Int) (nb : Int) > 1000) = false := by rw [decide_eq_false_iff_not]; omega
    have hna1 : na ≤ 1000 := by omega
    have hnb1 : nb ≤ 1000 := by omega
    go_wp2_with fail
    obtain ⟨W1, hW1⟩ : ∃ W1, W1 = w1.alloc (.cells #[.slice Aa na ca, .slice Ab nb cb] 22) := ⟨_, rfl⟩
    have Ha1 : Hid (Rd w1 B 1 Aa na (b8s a)) := Ha.out.keep (b1.mono hB0)
    have Hb1 : Hid (Rd w1 B 1 Ab nb (b8s b)) := Hb.out.keep (b1.mono hB0)
    have bW1 : Below w1.heap.size w1 W1 := by rw [hW1]; exact (Below.refl _ w1).alloc (Nat.le_refl _) _
    have hsW1 : W1.heap.size = w1.heap.size + 1 := by rw [hW1]; simp
    have hpa : partsAt W1 W1.heap.size (some ⟨w1.heap.size, 0, none⟩) [⟨Aa, ca, a⟩, ⟨Ab, cb, b⟩] := by
      refine ⟨rd_row (fr := (0, 0)) (t := 22) ?_ (by omega) rfl, ?_⟩
      · rw [hW1]
        simp only [List.map_cons, List.map_nil, Part.val, ← Hna.out, ← Hnb.out]
        exact World.alloc_heap_new w1 _
      · intro p hp
        simp only [List.mem_cons, List.not_mem_nil, or_false] at hp
        rcases hp with rfl | rfl
        · exact ⟨by rw [← Hna.out]; exact (Ha1.out.keep (bW1.mono (by omega))).more (by omega), by rw [← Hna.out]; exact hca⟩
        · exact ⟨by rw [← Hnb.out]; exact (Hb1.out.keep (bW1.mono (by omega))).more (by omega), by rw [← Hnb.out]; exact hcb⟩
    have hall : allBytes [(⟨Aa, ca, a⟩ : Part), (⟨Ab, cb, b⟩ : Part)] = a ++ b := by simp [allBytes]
    have HS := Lib.hid (sum_any _ _ 2 _ W1 hpa (Nat.le_refl _) (Nat.le_refl 2) (by show 2 ≤ 1000; decide) (by rw [hall, List.length_append, ← Hna.out, ← Hnb.out]; omega))
    rw [hall] at HS
    obtain ⟨D, hD⟩ : ∃ D, D = digest (a ++ b) := ⟨_, rfl⟩
    have hDl : D.length = 32 := by rw [hD]; exact digest_length _
    rw [← hD] at HS
    have HD := Lib.hid hD; have HDl := Lib.hid hDl
    clear hpa hall hD hDl Ha Hb
    refine calls_at (w1 := W1) hW1.symm ?_
    clear hW1
    refine HS.out.mono ?_
    rintro e w2 ⟨rfl, b2⟩
    have hs2 := b2.size
    have B2 : Below w1.heap.size w1 w2 := bW1.trans (b2.mono (by omega))
    have Hone := Lib.hid (b8s_one a)
    have Hone' := Lib.hid (b8s_one b)
    have Ha2 : Hid (Rd (w2.alloc (.cells #[] 5)) B 1 Aa na (b8s a)) := (Ha1.out.keep (B2.mono (by omega))).keep ((Below.refl B w2).alloc (by omega) _)
    have O2 : Hid ((w2.alloc (.cells #[] 5)).ownsRow w2.heap.size 5 1 (.slice (some ⟨w2.heap.size, 0, none⟩) 0 0) 0 []) :=
      ⟨rfl, .inr ⟨w2.heap.size, 0, #[], rfl, Nat.le_refl _, World.alloc_heap_new w2 _, Nat.le_refl _, Nat.zero_le _, rfl, rfl⟩⟩
    have hB2 : B ≤ w2.heap.size := by omega
    clear HS b2 bW1
    have Hb2 : Hid (Rd (w2.alloc (.cells #[] 5)) B 1 Ab nb (b8s b)) := (Hb1.out.keep (B2.mono (by omega))).keep ((Below.refl B w2).alloc (by omega) _)
    go_wp2_with (first
      | (at_builtin; refine wpList_appendRd rfl (.tmp 22) (.tmp 23) 22 rfl w2.heap.size 5 (.int .u8 0) 1 1 Try.underlying22 Try.info5 rfl (by decide) _ 0 _ rfl O2.out B Aa na ca _ rfl Ha2.out Hone.out (by omega) (by omega) (by simp) ?_; intro A3 cap3 w3 hown3 hb3 _; have Hb3 : Hid (Rd w3 B 1 Ab nb (b8s b)) := Hb2.out.keep (hb3.mono hB2); have Hown3 : Hid (w3.ownsRow w2.heap.size 5 1 (.slice A3 na cap3) na (b8s a)) := by simpa [Hid] using hown3
         have hs3 : w2.heap.size ≤ w3.heap.size := by have := hb3.size; simp at this; omega
         clear hown3 Ha2 O2)
      | (at_builtin; refine wpList_appendRd rfl (.tmp 24) (.tmp 25) 22 rfl w2.heap.size 5 (.int .u8 0) 1 1 Try.underlying22 Try.info5 rfl (by decide) _ na _ rfl Hown3.out B Ab nb cb _ rfl Hb3.out Hone'.out (by omega) (by omega) hs3 ?_; intro A4 cap4 w4 hown4 hb4 _; have Hown4 := Lib.hid hown4; clear hown4 Hown3 Hb3 Hb2))
    have hbs4 := hb4.size
    have B4 : Below w2.heap.size w2 w4 := (((Below.refl _ w2).alloc (Nat.le_refl _) _).trans hb3).trans hb4
    obtain ⟨hp4, bW4, hsW4⟩ := partsAt_list w4 [⟨A4, cap4, a ++ b⟩] (by
      intro p hp
      simp only [List.mem_cons, List.not_mem_nil, or_false] at hp
      subst hp
      have hl : (a ++ b).length = na + nb := by rw [List.length_append, ← Hna.out, ← Hnb.out]
      obtain ⟨_, _, e, hc, _⟩ := own_form Hown4.out
      refine ⟨?_, ?_⟩
      · show Rd w4 w4.heap.size 1 A4 (a ++ b).length (b8s (a ++ b))
        rw [hl, b8s_append]; exact Rd.of_own Hown4.out
      · show (a ++ b).length ≤ cap4
        rw [hl]; injection e; omega)
    have hval : [(⟨A4, cap4, a ++ b⟩ : Part)].map Part.val = [.slice A4 (na + nb) cap4] := by
      simp only [List.map_cons, List.map_nil, Part.val, List.length_append, ← Hna.out, ← Hnb.out]
    rw [hval] at hp4 bW4 hsW4
    obtain ⟨W4, hW4⟩ : ∃ W4, W4 = w4.alloc (.cells [Value.slice A4 (na + nb) cap4].toArray 22) := ⟨_, rfl⟩
    rw [← hW4] at hp4 bW4 hsW4
    have hall : allBytes [(⟨A4, cap4, a ++ b⟩ : Part)] = a ++ b := by simp [allBytes]
    have HX := Lib.hid (hex_any _ _ 1 _ W4 hp4 (Nat.le_refl _) (Nat.le_refl 1) (by show 1 ≤ 1000; decide) (by rw [hall, List.length_append, ← Hna.out, ← Hnb.out]; omega))
    rw [hall, ← HD.out] at HX
    refine calls_at (w1 := W4) hW4.symm ?_
    clear hW4 hp4 hall hval hb3 hb4 Hown4
    refine HX.out.mono ?_
    rintro e w5 ⟨rfl, b5⟩
    have hs5 := b5.size
    have B5 : Below w2.heap.size w2 w5 := B4.trans ((bW4.trans (b5.mono (by omega))).mono (by omega))
    clear HX b5 bW4 B4
    have h32 : (b8s D).toArray.size = 32 := by simp [b8s, HDl.out]
    go_wp2_with (first
      | refine wpList_store_row rfl 26 (.tmp 5) (.tmp 21) rfl w5.heap.size (b8s D).toArray rfl rfl 26 (List.replicate 32 (.int .u8 0)).toArray (by exact blk_new w5 26 (List.replicate 32 (.int .u8 0)).toArray) (by rw [h32]; kernel_rfl) (by rw [h32]; simp) (b8s_all D) ?_
      | refine wpList_load_row rfl 26 _ rfl w5.heap.size rfl 26 (b8s D).toArray (0, 0) _ (by exact row_laid w5 _ _ 26) Try.underlying26 rfl (by rw [h32]; kernel_rfl) ?_)
    obtain ⟨W5, hW5⟩ : ∃ W5, W5 = (w5.alloc (.cells (List.replicate 32 (.int .u8 0)).toArray 26)).setRow w5.heap.size (b8s D).toArray := ⟨_, rfl⟩
    have B6 : Below w2.heap.size w2 W5 := by
      rw [hW5]; exact below_setRow (B5.trans ((Below.refl _ w5).alloc B5.size _)) B5.size _
    refine wp_world (w1 := W5) (by rw [hW5]; rfl) ?_
    clear hW5 B5
    have BB : Below w.heap.size w W5 := b1.trans ((B2.mono hs1).trans (B6.mono (by omega)))
    have Ha5 : Hid (Rd W5 B 1 Aa na (b8s a)) := Ha1.out.keep ((B2.trans (B6.mono (by omega))).mono (by omega))
    clear B6 B2 b1 Ha1 Hb1
    go_loopw [30] (fun i wr => ∃ k : Nat, k ≤ 32 ∧ i = .int .i64 k ∧ ∃ q, wr = W5.drewN q) (fun i _ => 32 - (intOf i).toNat)
    case atStart => exact ⟨0, by omega, rfl, 0, rfl⟩
    case round =>
      obtain ⟨k, hk, rfl, q, rfl⟩ := hrel
      by_cases hk8 : k < 32
      · have hkl : k < D.length := by rw [HDl.out]; exact hk8
        have hv : (b8s D).toArray[k]? = some (.int .u8 ((D.getD k 0).toNat : Nat)) := by simpa using b8s_at D k hkl
        have hx : (D.getD k 0).toNat < 256 := (D.getD k 0).toNat_lt
        have hs0 := law_slice D k HDl.out hk8
        clear hkl
        generalize (D.getD k 0).toNat = x at *
        have Hv := Lib.hid hv; clear hv
        have l32 : (k : Int) < 32 := by omega
        have ha : x / 16 < 16 := by omega
        have hd : x % 16 < 16 := by omega
        go_wp2_with (first | refine wpList_index26 rfl (.tmp 29) (.tmp 30) rfl (b8s D).toArray k (.int .u8 x) rfl rfl hk8 Hv.out ?_)
        have e1 : IntKind.u8.wrap ((x : Int) / 16) = ((x / 16 : Nat) : Int) := by rw [IntKind.wrap_u8']; omega
        have e2 : IntKind.u8.wrap (((x / 16 : Nat) : Int) + 1) = ((x / 16 : Nat) : Int) + 1 := by rw [IntKind.wrap_u8']; omega
        have e4 : IntKind.u8.wrap (((x % 16 : Nat) : Int) + 1) = ((x % 16 : Nat) : Int) + 1 := by rw [IntKind.wrap_u8']; omega
        have e3 : (x : Int).tmod 16 = ((x % 16 : Nat) : Int) := rfl
        have hs1' := hex_slice (x / 16) ha
        have hs2' := hex_slice (x % 16) hd
        have hcat : ((⟨#[hexD (x / 16)]⟩ : ByteArray) ++ ⟨#[hexD (x % 16)]⟩) = ⟨#[hexD (x / 16), hexD (x % 16)]⟩ := rfl
        generalize x / 16 = a1 at *
        generalize x % 16 = d1 at *
        go_quiet (fail)
        go_wp2_with fail
        go_roundw
        case rel => exact ⟨k + 1, by omega, by go_num, q + nq, rfl⟩
        case measure => simp [intOf]; omega
      · obtain rfl : k = 32 := by omega
        have hsz : (⟨(hexOf D).toArray⟩ : ByteArray).size = 64 := by simp [ByteArray.size, hexOf_length, HDl.out]
        obtain ⟨W6, hW6⟩ : ∃ W6, W6 = W5.drewN q := ⟨_, rfl⟩
        have Ha6 : Hid (Rd W6 B 1 Aa na (b8s a)) := by rw [hW6]; exact rd_drewN Ha5.out q
        have B6 : Below w.heap.size w W6 := by rw [hW6]; exact BB.trans ⟨rfl, rfl, rfl, Nat.le_refl _, fun _ _ => rfl⟩
        have hcv : (convert 22 9 (.slice Aa na ca)).run Try.prog W6 = .ok (.string ⟨a.toArray⟩) W6 := by
          have := rd_string (w := W6) (B := B) (A := Aa) a ca (by rw [← Hna.out]; exact Ha6.out)
          rw [← Hna.out] at this; exact this
        rw [← hW6]
        clear hW6 Ha5 BB
        go_wp2_with fail
        obtain ⟨W7, hW7⟩ : ∃ W7, W7 = W6.alloc (.cells #[.string ⟨a.toArray⟩] 9) := ⟨_, rfl⟩
        have b67 : Below W6.heap.size W6 W7 := by rw [hW7]; exact (Below.refl _ W6).alloc (Nat.le_refl _) _
        have hs7 : W7.heap.size = W6.heap.size + 1 := by rw [hW7]; simp
        have hr7 : Rd W7 W7.heap.size 1 (some ⟨W6.heap.size, 0, none⟩) 1 ([a].map strV) :=
          rd_row (fr := (0, 0)) (t := 9) (by rw [hW7]; exact World.alloc_heap_new W6 _) (by omega) rfl
        have hkb : keyBytes [a] = be8 na ++ a := by simp [keyBytes, Hna.out]
        have HK := Lib.hid (key_any [a] _ 1 _ W7 hr7 (Nat.le_refl _) (Nat.le_refl 1) (by show 1 ≤ 100; decide) (by rw [hkb, List.length_append, be8_length, ← Hna.out]; omega))
        rw [hkb] at HK
        have hs6 : w.heap.size ≤ W6.heap.size := B6.size
        refine calls_at (w1 := W7) hW7.symm ?_
        clear hW7 hr7 hkb
        refine HK.out.mono ?_
        rintro e w7 ⟨rfl, b7⟩
        have B7 : Below W6.heap.size W6 w7 := b67.trans (b7.mono (by omega))
        clear HK b7 b67
        have hs7' := B7.size
        have Ha7 : Hid (Rd w7 B 1 Aa na (b8s a)) := Ha6.out.keep (B7.mono (by omega))
        clear Ha6
        obtain ⟨KB, hKB⟩ : ∃ KB, KB = hexOf (digest (be8 na ++ a)) := ⟨_, rfl⟩
        rw [← hKB]
        have HKB := Lib.hid hKB; clear hKB
        go_wp2_with fail
        have h8 := be8_small na hna1
        obtain ⟨w8, hw8⟩ : ∃ w8, w8 = w7.alloc (.cells (b8s (be8 na)).toArray 5) := ⟨_, rfl⟩
        have b78 : Below w7.heap.size w7 w8 := by rw [hw8]; exact (Below.refl _ w7).alloc (Nat.le_refl _) _
        have hs8 : w8.heap.size = w7.heap.size + 1 := by rw [hw8]; simp
        obtain ⟨hp8, bW8, hsW8⟩ := partsAt_list w8 [⟨some ⟨w7.heap.size, 0, none⟩, 8, be8 na⟩, ⟨Aa, ca, a⟩] (by
          intro p hp
          simp only [List.mem_cons, List.not_mem_nil, or_false] at hp
          rcases hp with rfl | rfl
          · exact ⟨rd_row (fr := (0, 0)) (t := 5) (by rw [hw8]; exact World.alloc_heap_new w7 _) (by omega) (by simp [b8s]), by show (be8 na).length ≤ 8; rw [be8_length]; exact Nat.le_refl _⟩
          · refine ⟨?_, by show a.length ≤ ca; rw [← Hna.out]; exact hca⟩
            show Rd w8 w8.heap.size 1 Aa a.length (b8s a)
            rw [← Hna.out]
            exact (Ha7.out.keep (b78.mono (by omega))).more (by omega))
        have hval : [(⟨some ⟨w7.heap.size, 0, none⟩, 8, be8 na⟩ : Part), (⟨Aa, ca, a⟩ : Part)].map Part.val = [.slice (some ⟨w7.heap.size, 0, none⟩) 8 8, .slice Aa na ca] := by
          simp only [List.map_cons, List.map_nil, Part.val, be8_length, ← Hna.out]
        rw [hval, hs8] at hp8
        rw [hval] at bW8 hsW8
        obtain ⟨W8, hW8⟩ : ∃ W8, W8 = w8.alloc (.cells [Value.slice (some ⟨w7.heap.size, 0, none⟩) 8 8, Value.slice Aa na ca].toArray 22) := ⟨_, rfl⟩
        rw [← hW8] at hp8 bW8 hsW8
        have hall : allBytes [(⟨some ⟨w7.heap.size, 0, none⟩, 8, be8 na⟩ : Part), (⟨Aa, ca, a⟩ : Part)] = be8 na ++ a := by simp [allBytes]
        have HX := Lib.hid (hex_any _ _ 2 _ W8 hp8 (Nat.le_refl _) (Nat.le_refl 2) (by show 2 ≤ 1000; decide) (by rw [hall, List.length_append, be8_length, ← Hna.out]; omega))
        rw [hall, ← HKB.out] at HX
        refine calls_at (w1 := W8) (by rw [hW8, hw8, h8]) ?_
        clear hW8 hp8 hall hval hw8 h8
        refine HX.out.mono ?_
        rintro e w9 ⟨rfl, b9⟩
        have hs9 := b9.size
        have B9 : Below w.heap.size w w9 := (B6.trans (B7.mono hs6)).trans ((b78.mono (by omega)).trans ((bW8.mono (by omega)).trans (b9.mono (by omega))))
        clear HX B6 B7 b78 bW8 b9
        have HK0 := Lib.hid (key_any [] none 0 _ w9 Rd.nil (Nat.le_refl _) (Nat.le_refl 0) (by decide) (by decide))
        have e0 : (hexOf (digest (keyBytes []))) = hexOf (digest []) := rfl
        rw [e0] at HK0
        obtain ⟨H0, hH0⟩ : ∃ H0, H0 = hexOf (digest []) := ⟨_, rfl⟩
        rw [← hH0] at HK0
        go_wp2_with fail
        refine HK0.out.mono ?_
        rintro e w10 ⟨rfl, b10⟩
        have HX0 := Lib.hid (hex_any [] none 0 _ w10 (partsAt_nil w10) (Nat.le_refl _) (Nat.le_refl 0) (by decide) (by decide))
        have e1 : (hexOf (digest (allBytes []))) = hexOf (digest []) := rfl
        rw [e1, ← hH0] at HX0
        clear hH0 HK0 e0 e1
        go_wp2_with fail
        refine HX0.out.mono ?_
        rintro e w11 ⟨rfl, b11⟩
        clear HX0
        go_wp2_with fail
        have hs10 := b10.size
        go_ret
        exact ⟨rfl, B9.trans ((b10.mono B9.size).trans (b11.mono (by have := B9.size; omega)))⟩
end Go.Proofs.Ytknoonkjkdjkbaa
