/-
  law17.LexPlain, walked.
-/
import Derived.Test.YthilkpjdfjjikaaDoorFst
import Derived.Test.YthilkpjdfjjikaaDoorPln
namespace Go.Proofs.YthilkpjdfjjikaaDoor
open Go.RowKit

theorem enc_utf8 (p : Nat) (h : isPt (p : Int) = true) : Utf8.encode (p : Int) = bs (oneL p) := by
  have hv : Utf8.valid (p : Int) = true := by rw [← isPt_valid]; exact h
  unfold Utf8.encode oneL bs
  simp only [hv, if_true, Int.toNat_natCast]
  by_cases h1 : p < 128
  · simp [h1]
  · by_cases h2 : p < 2048
    · simp [h1, h2]
    · by_cases h3 : p < 65536
      · simp [h1, h2, h3]
      · simp [h1, h2, h3]
theorem keep_one (x : UInt8) (r : Bs) (h : markB (fixP (readL (x :: r)).1).toNat = false) : isPt (((fixP (readL (x :: r)).1).toNat : Nat) : Int) = true ∧ (oneL (fixP (readL (x :: r)).1).toNat).length ≤ (readL (x :: r)).2 := by
  have hp : 0 ≤ (readL (x :: r)).1 := by
    by_cases h0 : 0 ≤ (readL (x :: r)).1
    · exact h0
    · exfalso
      unfold fixP at h
      rw [if_pos (by omega)] at h
      cases h
  have hf : fixP (readL (x :: r)).1 = (readL (x :: r)).1 := by unfold fixP; rw [if_neg (by omega)]
  rw [hf]
  refine ⟨by rw [show (((readL (x :: r)).1.toNat : Nat) : Int) = (readL (x :: r)).1 from by omega]; exact readL_pt x r hp, ?_⟩
  rw [one_read x r hp, List.length_take]
  omega
theorem keep_end (F : Nat) : keepFrom F [] = [] := by cases F <;> rfl
theorem mark_cases {q : Nat} (h : markB q = true) : q = 60 ∨ q = 123 ∨ q = 125 ∨ q = 65533 := by
  simp only [markB, Bool.or_eq_true, beq_iff_eq] at h
  omega
theorem mark_not {q : Nat} (h : markB q = false) : q ≠ 60 ∧ q ≠ 123 ∧ q ≠ 125 ∧ q ≠ 65533 := by
  simp only [markB, Bool.or_eq_false_iff, beq_eq_false_iff_ne] at h
  omega
set_option maxHeartbeats 4000000 in
set_option maxRecDepth 100000 in
theorem plain_any (s : Bs) (w : World) (hT : Tabs w) :
    Calls Tryd.prog 5 #[.string (bs s)] w fun e w' => e = .returned (.bool true) ∧ Below w.heap.size w w' := by
  have hz : (bs s).size = s.length := bs_size s
  have HF := Lib.hid (first_any w hT)
  have HD := Lib.hid (decode_read s)
  obtain ⟨hkp, hkl⟩ := keep_plain s
  obtain ⟨T, hTe⟩ : ∃ T, T = keepL s := ⟨_, rfl⟩
  rw [← hTe] at hkp hkl
  have HK := Lib.hid hTe
  have HP := Lib.hid hkp
  have HT := Lib.hid hT; clear hT hkp hTe
  obtain ⟨S, hS⟩ : ∃ S, S = bs s := ⟨_, rfl⟩
  have HD : Hid (∀ (i : Nat) (x : UInt8) (r : List UInt8), List.drop i s = x :: r → Utf8.decode S i = ((fixP (readL (x :: r)).1).toNat, (readL (x :: r)).2)) := by rw [hS]; exact HD
  rw [← hS] at hz ⊢
  clear hS
  obtain ⟨n, hn⟩ : ∃ n, n = s.length := ⟨_, rfl⟩
  rw [← hn] at hz hkl
  have Hn := Lib.hid hn; have Hsz := Lib.hid hz; clear hn
  go_enter Tryd.func5, Tryd.ntmps5
  by_cases h3 : 3000 < n
  · have t1 : decide ((n : Int) > 3000) = true := by rw [decide_eq_true_eq]; omega
    go_wp2_with (go_at_call 11; refine HF.out.mono ?_; rintro e w1 ⟨rfl, b1⟩)
    go_ret
    exact ⟨rfl, b1⟩
  · have t1 : decide ((n : Int) > 3000) = false := by rw [decide_eq_false_iff_not]; omega
    go_wp2_with (go_at_call 11; refine HF.out.mono ?_; rintro e w1 ⟨rfl, b1⟩)
    have hs1 := b1.size
    clear HF hz
    go_loopw [3] (fun t wr => ∃ (m F : Nat) (acc : Bs), t = .string (bs acc) ∧ m ≤ n ∧ n - m ≤ F ∧ acc.length ≤ m ∧ T = acc ++ keepFrom F (s.drop m) ∧ wr.heap[w1.heap.size]? = some (.stringIter S m) ∧ Below w.heap.size w wr) (fun _ wr => n - wr.iterPos w1.heap.size)
    case atStart => exact ⟨0, n, [], rfl, by omega, by omega, by simp, by rw [HK.out, Hn.out]; rfl, World.iter_heap w1 S 0, b1.alloc hs1 _⟩
    case round =>
      obtain ⟨m, F, acc, rfl, hm, hF, hal, hbd, hit, hB⟩ := hrel
      have hip : wr.iterPos w1.heap.size = m := by unfold World.iterPos; rw [hit]
      have Hip := Lib.hid hip; have Hbd := Lib.hid hbd
      clear hip hbd
      by_cases hmn : m < n
      · obtain ⟨x, r, hxr⟩ : ∃ x r, s.drop m = x :: r := by
          cases hd : s.drop m with
          | nil => have := congrArg List.length hd; rw [List.length_drop, ← Hn.out] at this; simp at this; omega
          | cons x r => exact ⟨x, r, rfl⟩
        have hrl : r.length + 1 = n - m := by have := congrArg List.length hxr; rw [List.length_drop, ← Hn.out] at this; simpa using this.symm
        have hd := HD.out m x r hxr
        have hle := readL_le x r
        have hone := keep_one x r
        obtain ⟨F, rfl⟩ : ∃ F', F = F' + 1 := ⟨F - 1, by omega⟩
        have hb2 : T = acc ++ ((if markB (fixP (readL (x :: r)).1).toNat = true then [] else oneL (fixP (readL (x :: r)).1).toNat) ++ keepFrom F (s.drop (m + (readL (x :: r)).2))) := by
          rw [Hbd.out, hxr, ← List.drop_drop, hxr]; rfl
        have hnx := fun ty => Lib.run_next_any_at (P := Tryd.prog) wr w1.heap.size S m ty hit (by rw [Hsz.out]; exact hmn)
        rw [hd] at hnx
        dsimp only at hnx
        obtain ⟨q, hq⟩ : ∃ q, q = (fixP (readL (x :: r)).1).toNat := ⟨_, rfl⟩
        obtain ⟨k, hk⟩ : ∃ k, k = (readL (x :: r)).2 := ⟨_, rfl⟩
        rw [← hq, ← hk] at hb2 hone
        rw [← hk] at hle
        simp only [← hq, ← hk] at hnx
        have Hb2 := Lib.hid hb2
        clear hd hq hk hxr hb2
        obtain ⟨W, hW⟩ : ∃ W, W = wr.iterAt w1.heap.size S (m + k) := ⟨_, rfl⟩
        rw [← hW] at hnx
        have hitW : W.heap[w1.heap.size]? = some (.stringIter S (m + k)) := by rw [hW]; exact Lib.iterAt_heap _ _ _ _ _ hit
        have hBW : Below w.heap.size w W := by rw [hW]; exact Lib.below_iterAt hB hs1 _ _
        have hipW : W.iterPos w1.heap.size = m + k := by unfold World.iterPos; rw [hitW]
        have HipW := Lib.hid hipW
        clear hW hit hipW
        cases hmk : markB q with
        | true =>
          rw [hmk, if_pos rfl, List.nil_append] at Hb2
          have hcs := mark_cases hmk
          clear hone hmk
          rcases hcs with rfl | rfl | rfl | rfl
          all_goals
            go_wp2_with fail
            exact ⟨⟨m + k, F, acc, rfl, by omega, by omega, by omega, Hb2.out, hitW, hBW⟩, by rw [Hip.out, HipW.out]; omega⟩
        | false =>
          rw [hmk, if_neg (by decide), ← List.append_assoc] at Hb2
          obtain ⟨hpt, hol⟩ := hone hmk
          obtain ⟨q1, q2, q3, q4⟩ := mark_not hmk
          have k1 : ((q : Int) != 60) = true := by rw [bne_iff_ne]; omega
          have k2 : ((q : Int) != 123) = true := by rw [bne_iff_ne]; omega
          have k3 : ((q : Int) != 125) = true := by rw [bne_iff_ne]; omega
          have k4 : ((q : Int) != 65533) = true := by rw [bne_iff_ne]; omega
          have hcv : ∀ W, (convert 21 9 (.int .i32 ((q : Nat) : Int))).run Tryd.prog W = .ok (.string (bs (oneL q))) W := by
            intro W; rw [run_convert_int_string W 21 9 .i32 _ (by kernel_rfl) Tryd.underlying9, enc_utf8 q hpt]
          have hok := cat_ok acc (oneL q) (by omega)
          have hcat := bs_cat acc (oneL q)
          clear hone hmk q1 q2 q3 q4 hpt
          go_wp2_with fail
          refine ⟨⟨m + k, F, acc ++ oneL q, by rw [← hcat], by omega, by omega, by rw [List.length_append]; omega, Hb2.out, hitW, hBW⟩, by rw [Hip.out, HipW.out]; omega⟩
      · obtain rfl : m = n := by omega
        have hnx := fun ty => Lib.run_next_end_at (P := Tryd.prog) wr w1.heap.size S m ty hit (by rw [Hsz.out]; exact hmn)
        have hTa : T = acc := by
          rw [Hbd.out, List.drop_of_length_le (by rw [← Hn.out]; exact Nat.le_refl _), keep_end, List.append_nil]
        subst hTa
        clear Hbd Hip hit
        obtain ⟨TB, hTB⟩ : ∃ TB, TB = bs T := ⟨_, rfl⟩
        have qs1 : TB.size = T.length := by rw [hTB, bs_size]
        have HTB := Lib.hid hTB
        rw [← hTB]
        clear hTB
        by_cases h0 : T = []
        · have qn : (TB.toList == []) = true := by rw [HTB.out, h0, bs_toList]; rfl
          have qe : TB.toList.isEmpty = true := by rw [HTB.out, h0, bs_toList]; rfl
          go_wp2_with fail
          go_ret
          exact ⟨rfl, hB⟩
        · have qn : (TB.toList == []) = false := by
            rw [HTB.out, bs_toList, beq_eq_false_iff_ne]; exact h0
          have qe : TB.toList.isEmpty = false := by
            rw [HTB.out, bs_toList]; cases T with
              | nil => exact absurd rfl h0
              | cons a l => rfl
          have qq : (TB.toList == TB.toList) = true := beq_self_eq_true _
          have H1 := Lib.hid (lex_any T wr (HT.out.below hB))
          rw [lex_plain T HP.out h0 (by omega), ← HTB.out] at H1
          have h3' := fun W (hW : Tabs W) => lex_any (T ++ [123, 123, 97, 46, 98, 125, 125] ++ T) W hW
          rw [lex_three T HP.out h0 (by omega)] at h3'
          have hbe : bs (T ++ [123, 123, 97, 46, 98, 125, 125] ++ T) = TB ++ ⟨#[123, 123, 97, 46, 98, 125, 125]⟩ ++ TB := by
            rw [HTB.out, ← bs_cat, ← bs_cat]; rfl
          rw [hbe] at h3'
          have H3 := Lib.hid h3'
          have ok1 : ¬ 9223372036854775807 < TB.size + (⟨#[123, 123, 97, 46, 98, 125, 125]⟩ : ByteArray).size := by
            rw [qs1, show (⟨#[123, 123, 97, 46, 98, 125, 125]⟩ : ByteArray).size = 7 from rfl]; omega
          have ok2 : ¬ 9223372036854775807 < (TB ++ ⟨#[123, 123, 97, 46, 98, 125, 125]⟩).size + TB.size := by
            rw [ByteArray.size_append, qs1, show (⟨#[123, 123, 97, 46, 98, 125, 125]⟩ : ByteArray).size = 7 from rfl]; omega
          clear h3' hbe
          go_wp2_with fail
          refine H1.out.mono ?_
          rintro e w2 ⟨v1, rfl, o1, b2⟩
          clear H1
          have hB2 := hB.trans (b2.mono hB.size)
          obtain ⟨A1, c1, qs1', rfl, hc1, hq1, hr1⟩ := o1.read
          have hc1 : 1 ≤ c1 := hc1
          have HR1 := Lib.hid hr1; have HQ1 := Lib.hid hq1; have HB2 := Lib.hid hB2
          clear o1 hr1 hq1 b2 hB2
          go_wp2_with fail
          refine (H3.out w2 (HT.out.below HB2.out)).mono ?_
          rintro e w3 ⟨v3, rfl, o3, b3⟩
          clear H3
          have hB3 := HB2.out.trans (b3.mono HB2.out.size)
          obtain ⟨A3, c3, qs3, rfl, hc3, hq3, hr3⟩ := o3.read
          have hc3 : 3 ≤ c3 := hc3
          have hr1 := HR1.out.keep b3
          have hl1 : qs1'.length = 1 := by rw [← List.length_map (f := (·.1)), HQ1.out]; rfl
          have hl3 : qs3.length = 3 := by rw [← List.length_map (f := (·.1)), hq3]; rfl
          obtain ⟨x1, y1, rfl, _, g1⟩ := hr1.at_ (by rw [hl1]; decide)
          obtain ⟨x3, y3, rfl, _, g3⟩ := hr3.at_ (by rw [hl3]; decide)
          have e02 := g1 0 2 (by rw [hl1]; decide) (by decide)
          have f02 := g3 0 2 (by rw [hl3]; decide) (by decide)
          have f22 := g3 2 2 (by rw [hl3]; decide) (by decide)
          have f11 := g3 1 1 (by rw [hl3]; decide) (by decide)
          have f15 := g3 1 5 (by rw [hl3]; decide) (by decide)
          rw [pcell_2, map_at HQ1.out 0 (by rw [hl1]; decide)] at e02
          rw [pcell_2, map_at hq3 0 (by rw [hl3]; decide)] at f02
          rw [pcell_2, map_at hq3 2 (by rw [hl3]; decide)] at f22
          rw [pcell_1, map_at hq3 1 (by rw [hl3]; decide)] at f11
          rw [pcell_5, map_at hq3 1 (by rw [hl3]; decide)] at f15
          replace e02 : w3.cell? ⟨x1, y1 + 0 * 6 + 2, none⟩ = some (.string TB) := by rw [e02, HTB.out]; rfl
          replace f02 : w3.cell? ⟨x3, y3 + 0 * 6 + 2, none⟩ = some (.string TB) := by rw [f02, HTB.out]; rfl
          replace f22 : w3.cell? ⟨x3, y3 + 2 * 6 + 2, none⟩ = some (.string TB) := by rw [f22, HTB.out]; rfl
          replace f11 : w3.cell? ⟨x3, y3 + 1 * 6 + 1, none⟩ = some (.int .i64 (T.length : Int)) := f11
          replace f15 : w3.cell? ⟨x3, y3 + 1 * 6 + 5, none⟩ = some (.int .i64 0) := f15
          have HB3 := Lib.hid hB3
          clear g1 g3 hr1 hr3 hl1 hl3 hq3 o3 b3 hB3 HR1 HQ1 HTB HP HK
          have tT : ((T.length : Int) == (T.length : Int)) = true := beq_self_eq_true _
          go_wp2_with fail
          go_ret
          exact ⟨rfl, HB3.out⟩
end Go.Proofs.YthilkpjdfjjikaaDoor
