/-
  Texts of this seat, joined: Mch, Mst. Each says what it proves, ahead of itself.
-/
import Derived.Test.YthilkpjdfjjikaaDoorChecked
import Derived.Lib.IndexAny
import Derived.Deep.QuietTactic
import Derived.BigQuiet
import Derived.RegionTactic
import Derived.BigRegion
import Derived.Handy
import Derived.Test.YthilkpjdfjjikaaDoorKit
import Derived.Test.YthilkpjdfjjikaaDoorShelf
import Derived.Test.YthilkpjdfjjikaaDoorMac
set_option linter.unusedVariables false
set_option linter.unusedSimpArgs false
section
/-
  The program's machine: its small functions.
-/
namespace Go.Proofs.YthilkpjdfjjikaaDoor
open Go.RowKit

def bs (l : Bs) : ByteArray := ⟨l.toArray⟩
def u8v (c : UInt8) : Value := .int .u8 ((c.toNat : Nat) : Int)
theorem byte_back (c : UInt8) : ((c.toNat : Nat) : Int).toNat.toUInt8 = c := by simp
theorem blank_contains (c : UInt8) : blankB c = ([32, 9, 10, 12, 13] : Bs).contains c := by
  unfold blankB
  simp [List.contains_cons, Bool.or_assoc]
  rfl
theorem blank_any (c : UInt8) (w : World) : Calls Tryd.prog 66 #[u8v c] w fun e w' => e = .returned (.bool (blankB c)) ∧ w' = w := by
  have H79 : Hid (Calls Tryd.prog 79 #[.string ⟨#[32, 9, 10, 12, 13]⟩, u8v c] w fun e w' => e = .returned (.int .i64 (Lib.indexByte [32, 9, 10, 12, 13] c)) ∧ w' = w) := by
    have := Tryd.strings_IndexByte ⟨#[32, 9, 10, 12, 13]⟩ ((c.toNat : Nat) : Int) w
    rw [byte_back] at this
    exact this
  have hb : blankB c = decide (0 ≤ Lib.indexByte [32, 9, 10, 12, 13] c) := by rw [blank_contains, Lib.contains_iff_indexByte]
  rw [hb]
  generalize Lib.indexByte [32, 9, 10, 12, 13] c = i at H79
  go_enter Tryd.func66, Tryd.ntmps66
  go_wp2_with fail
  refine H79.out.mono ?_
  rintro e w' ⟨rfl, rfl⟩
  go_wp2_with fail
  go_ret
  exact ⟨rfl, rfl⟩
theorem letter_any (c : UInt8) (w : World) : Calls Tryd.prog 41 #[u8v c] w fun e w' => e = .returned (.bool (letterB c)) ∧ w' = w := by
  unfold letterB u8v
  generalize c.toNat = n
  go_enter Tryd.func41, Tryd.ntmps41
  go_wp2_with fail
  all_goals go_ret
  all_goals refine ⟨congrArg (fun b => Ending.returned (Value.bool b)) ?_, rfl⟩
  all_goals first | (simp_all; done) | (rw [Bool.eq_iff_iff]; simp; omega) | trace_state
theorem conv_one (w : World) (x : Nat) (c : UInt8) (hx : x = c.toNat) : (convert 92 9 (.slice (some ⟨w.heap.size, 0, none⟩) 1 1)).run Tryd.prog (w.alloc (.cells #[.int .u8 (x : Int)] 5)) = .ok (.string (bs [c])) (w.alloc (.cells #[.int .u8 (x : Int)] 5)) := by
  subst hx
  refine run_convert_bytes_back _ 92 9 5 ⟨w.heap.size, 0, none⟩ 1 [c] Tryd.underlying92 Tryd.underlying5 Tryd.underlying9 ?_
  intro j hj
  have hj0 : j = 0 := by simpa using hj
  subst hj0
  rw [add_eq, cell_of_row _ w.heap.size (0 + 0) #[.int .u8 ((c.toNat : Nat) : Int)] 5 (0, 0) (heap_alloc_new w _)]
  rfl
theorem small_nat (c : UInt8) : (smallB c).toNat = if 65 ≤ c.toNat ∧ c.toNat ≤ 90 then c.toNat + 32 else c.toNat := by
  unfold smallB
  by_cases h : 65 ≤ c.toNat ∧ c.toNat ≤ 90
  · rw [if_pos (by simpa using h), if_pos h, UInt8.toNat_add]
    have : (32 : UInt8).toNat = 32 := rfl
    rw [this]; omega
  · rw [if_neg (by simpa using h), if_neg h]
set_option maxRecDepth 100000 in
theorem small_any (c : UInt8) (w : World) : Calls Tryd.prog 43 #[u8v c] w fun e w' => e = .returned (.string (bs [smallB c])) ∧ w' = w.alloc (.cells #[u8v (smallB c)] 5) := by
  have hn := small_nat c
  have hlt := c.toNat_lt
  have hcv := conv_one w (smallB c).toNat (smallB c) rfl
  unfold u8v
  obtain ⟨R, hR⟩ : ∃ R, R = bs [smallB c] := ⟨_, rfl⟩
  rw [← hR] at hcv ⊢
  generalize (smallB c).toNat = m at hn hcv ⊢
  generalize c.toNat = n at hn hlt ⊢
  clear hR
  by_cases h : 65 ≤ n ∧ n ≤ 90
  · rw [if_pos h] at hn
    subst hn
    obtain ⟨h1, h2⟩ := h
    have hz : (((n + 32 : Nat) : Nat) : Int) = (n : Int) + 32 := by omega
    rw [hz] at hcv ⊢
    go_enter Tryd.func43, Tryd.ntmps43
    go_wp2_with fail
    go_ret
    exact ⟨rfl, rfl⟩
  · rw [if_neg h] at hn
    subst hn
    by_cases h1 : 65 ≤ m
    · have h2 : ¬ (m ≤ 90) := fun h2 => h ⟨h1, h2⟩
      clear h
      go_enter Tryd.func43, Tryd.ntmps43
      go_wp2_with fail
      go_ret
      exact ⟨rfl, rfl⟩
    · clear h
      go_enter Tryd.func43, Tryd.ntmps43
      go_wp2_with fail
      go_ret
      exact ⟨rfl, rfl⟩
end Go.Proofs.YthilkpjdfjjikaaDoor
end
section
/-
  The program's machine: its block, and the methods that turn it.
-/
namespace Go.Proofs.YthilkpjdfjjikaaDoor
open Go.RowKit

def mcells (m : Mach) : List Value := [.int .i64 ((m.st : Nat) : Int), .string (bs m.name), .string (bs m.attr), u8v m.quote, .bool m.filled, .string (bs m.tail)]
def IsMach (w : World) (g : Nat) (m : Mach) : Prop := Blk w g 58 (mcells m)
theorem gb_set (w : World) (g i : Nat) (u : Value) : w.grownBy (w.setCell ⟨g, i, none⟩ u) (some g) :=
  ⟨rfl, rfl, rfl, by simp, fun k _ hne => Below.heap_setCell w ⟨g, i, none⟩ u k (fun e => hne (by rw [e]))⟩
theorem gb_alloc (w : World) (o : Obj) (row : Option Nat) : w.grownBy (w.alloc o) row :=
  ⟨rfl, rfl, rfl, by simp, fun k hk _ => Below.heap_alloc w o k hk⟩
theorem gb_drew (w : World) (row : Option Nat) : w.grownBy w.drew row := ⟨rfl, rfl, rfl, Nat.le_refl _, fun _ _ _ => rfl⟩
theorem gb_drewN (w : World) (n : Nat) (row : Option Nat) : w.grownBy (w.drewN n) row := ⟨rfl, rfl, rfl, Nat.le_refl _, fun _ _ _ => rfl⟩

theorem conv_at (c : UInt8) (b : Nat) (W : World) (h : W.cell? ⟨b, 0, none⟩ = some (.int .u8 ((c.toNat : Nat) : Int))) : (convert 92 9 (.slice (some ⟨b, 0, none⟩) 1 1)).run Tryd.prog W = .ok (.string (bs [c])) W := by
  refine run_convert_bytes_back _ 92 9 5 ⟨b, 0, none⟩ 1 [c] Tryd.underlying92 Tryd.underlying5 Tryd.underlying9 ?_
  intro j hj
  have hj0 : j = 0 := by simpa using hj
  subst hj0
  rw [add_eq]
  exact h
theorem bs_toList (l : Bs) : (bs l).toList = l := by rw [ByteArray.toList_eq]; rfl
theorem eq_bs (l k : Bs) : ((bs l).toList == k) = (l == k) := by rw [bs_toList]
set_option maxHeartbeats 2000000 in
set_option maxRecDepth 100000 in
theorem shut_any (g : Nat) (m : Mach) (w : World) (h : IsMach w g m) :
    Calls Tryd.prog 65 #[.pointer (some ⟨g, 0, none⟩)] w fun e w' => (∃ v, e = .returned v) ∧ IsMach w' g (shutM m) ∧ w.grownBy w' (some g) := by
  obtain ⟨st, nm, at', q, f, tl⟩ := m
  have c0 := blk_cell h 0; have c1 := blk_cell h 1; have c5 := blk_cell h 5
  have f0 := blk_frozen h 0; have f5 := blk_frozen h 5
  simp only [mcells, List.getElem?_cons_zero, List.getElem?_cons_succ] at c0 c1 c5
  have q1 := eq_bs nm [115, 99, 114, 105, 112, 116]
  have q2 := eq_bs nm [115, 116, 121, 108, 101]
  have hr : rawEl nm = (nm == [115, 99, 114, 105, 112, 116] || nm == [115, 116, 121, 108, 101]) := rfl
  have H := Lib.hid h; clear h
  have Hr := Lib.hid hr; clear hr
  cases h1 : (nm == [115, 99, 114, 105, 112, 116]) with
  | true =>
    rw [h1] at q1 Hr
    have hs : shutM ⟨st, nm, at', q, f, tl⟩ = ⟨12, nm, at', q, f, []⟩ := by unfold shutM; simp only [Hr.out, Bool.true_or, if_true]
    rw [hs]
    clear h1 hs Hr
    go_enter Tryd.func65, Tryd.ntmps65
    go_wp2_with fail
    go_end0
    exact ⟨⟨_, rfl⟩, blk_set (blk_set (blk_set H.out 0 _) 5 _) 0 _, ((gb_set _ _ _ _).trans (gb_set _ _ _ _)).trans (gb_set _ _ _ _)⟩
  | false =>
    rw [h1] at q1 Hr
    cases h2 : (nm == [115, 116, 121, 108, 101]) with
    | true =>
      rw [h2] at q2 Hr
      have hs : shutM ⟨st, nm, at', q, f, tl⟩ = ⟨12, nm, at', q, f, []⟩ := by unfold shutM; simp only [Hr.out, Bool.or_true, if_true]
      rw [hs]
      clear h1 h2 hs Hr
      go_enter Tryd.func65, Tryd.ntmps65
      go_wp2_with fail
      go_end0
      exact ⟨⟨_, rfl⟩, blk_set (blk_set (blk_set H.out 0 _) 5 _) 0 _, ((gb_set _ _ _ _).trans (gb_set _ _ _ _)).trans (gb_set _ _ _ _)⟩
    | false =>
      rw [h2] at q2 Hr
      have hs : shutM ⟨st, nm, at', q, f, tl⟩ = ⟨0, nm, at', q, f, []⟩ := by unfold shutM; simp only [Hr.out, Bool.or_false, Bool.false_eq_true, if_false]
      rw [hs]
      clear h1 h2 hs Hr
      go_enter Tryd.func65, Tryd.ntmps65
      go_wp2_with fail
      go_end0
      exact ⟨⟨_, rfl⟩, blk_set (blk_set H.out 0 _) 5 _, (gb_set _ _ _ _).trans (gb_set _ _ _ _)⟩
set_option maxHeartbeats 2000000 in
set_option maxRecDepth 100000 in
theorem begin_any (g : Nat) (m : Mach) (c : UInt8) (w : World) (h : IsMach w g m) :
    Calls Tryd.prog 67 #[.pointer (some ⟨g, 0, none⟩), u8v c] w fun e w' => (∃ v, e = .returned v) ∧ IsMach w' g { m with st := 6, attr := [smallB c] } ∧ w.grownBy w' (some g) := by
  obtain ⟨st, nm, at', q, f, tl⟩ := m
  have H43 := Lib.hid (small_any c w)
  have hW := blk_alloc h (.cells #[u8v (smallB c)] 5)
  have hgb := gb_alloc w (.cells #[u8v (smallB c)] 5) (some g)
  obtain ⟨W, hWe⟩ : ∃ W, W = w.alloc (.cells #[u8v (smallB c)] 5) := ⟨_, rfl⟩
  rw [← hWe] at hW hgb H43
  have c0 := blk_cell hW 0; have c2 := blk_cell hW 2
  have f0 := blk_frozen hW 0; have f2 := blk_frozen hW 2
  simp only [mcells, List.getElem?_cons_zero, List.getElem?_cons_succ] at c0 c2
  have H := Lib.hid hW; clear hW h hWe
  go_enter Tryd.func67, Tryd.ntmps67
  go_wp2_with fail
  refine H43.out.mono ?_
  rintro e w' ⟨rfl, rfl⟩
  go_wp2_with fail
  go_end0
  exact ⟨⟨_, rfl⟩, blk_set (blk_set H.out 0 _) 2 _, hgb.trans ((gb_set _ _ _ _).trans (gb_set _ _ _ _))⟩
theorem str_from (l : Bs) (m : Nat) (h : m ≤ l.length) (w : World) : (Instr.slice 9 (.string (bs l)) (some (.int .i64 (m : Int))) none none).run Tryd.prog w = .ok (.string (bs (l.drop m))) w := by
  have hs : (bs l).size = l.length := by simp [bs, ByteArray.size]
  rw [run_slice_string_from_if w 9 _ .i64 _ Tryd.underlying9]
  rw [if_pos ⟨by omega, by rw [hs]; omega⟩]
  congr 2
  apply ByteArray.ext
  rw [ByteArray.data_extract]
  apply Array.ext'
  rw [hs]
  simp only [bs, Array.toList_extract, List.extract_eq_take_drop]
  rw [List.take_of_length_le (by simp), Int.toNat_natCast]
theorem bs_cat (a b : Bs) : bs a ++ bs b = bs (a ++ b) := by unfold bs; apply ByteArray.ext; rw [ByteArray.data_append]; simp
theorem bs_size (a : Bs) : (bs a).size = a.length := by simp [bs, ByteArray.size]
theorem cat_ok (a b : Bs) (h : a.length + b.length ≤ 4000000) : ¬ 9223372036854775807 < (bs a).size + (bs b).size := by rw [bs_size, bs_size]; omega
theorem u8_ne {c : UInt8} {k : Nat} (d : UInt8) (hd : d.toNat = k) (h : c ≠ d) : ((c.toNat : Int) == (k : Int)) = false := by
  rw [beq_eq_false_iff_ne]; intro e; exact h (by apply UInt8.toNat_inj.1; omega)
set_option maxHeartbeats 4000000 in
set_option maxRecDepth 100000 in
theorem bang_any (g : Nat) (m : Mach) (c : UInt8) (w : World) (h : IsMach w g m) (ht : m.tail.length ≤ 1000000) :
    Calls Tryd.prog 42 #[.pointer (some ⟨g, 0, none⟩), u8v c] w fun e w' => (∃ v, e = .returned v) ∧ IsMach w' g (bangM m c) ∧ w.grownBy w' (some g) := by
  obtain ⟨st, nm, at', q, f, tl⟩ := m
  dsimp only at ht
  have c0 := blk_cell h 0; have c5 := blk_cell h 5
  have f0 := blk_frozen h 0; have f5 := blk_frozen h 5
  simp only [mcells, List.getElem?_cons_zero, List.getElem?_cons_succ] at c0 c5
  have H50 : Hid (∀ w, Calls Tryd.prog 50 #[.string (bs tl), .string ⟨#[45, 45]⟩] w fun e w' => e = .returned (.bool (Lib.hasPrefix tl [45, 45])) ∧ w' = w) := fun w => Tryd.strings_HasPrefix (bs tl) ⟨#[45, 45]⟩ w
  have H44 : Hid (∀ w, Calls Tryd.prog 44 #[.string (bs tl), .string ⟨#[45, 45]⟩] w fun e w' => e = .returned (.bool (Lib.hasSuffix tl [45, 45])) ∧ w' = w) := fun w => Tryd.strings_HasSuffix (bs tl) ⟨#[45, 45]⟩ w (by show tl.length ≤ _; omega)
  have H := Lib.hid h; clear h
  obtain ⟨P, hP⟩ : ∃ P, P = Lib.hasPrefix tl [45, 45] := ⟨_, rfl⟩
  obtain ⟨S, hS⟩ : ∃ S, S = Lib.hasSuffix tl [45, 45] := ⟨_, rfl⟩
  rw [← hP] at H50
  rw [← hS] at H44
  by_cases htest : c = 62 ∧ (P = false ∨ S = true)
  · obtain ⟨rfl, hPS⟩ := htest
    have hb : bangM ⟨st, nm, at', q, f, tl⟩ 62 = ⟨0, nm, at', q, f, tl⟩ := by
      unfold bangM
      rw [if_pos (by rw [← hP, ← hS]; rcases hPS with e | e <;> simp [e])]
    rw [hb, show u8v 62 = .int .u8 62 from rfl]
    clear hb hP hS
    cases P with
    | false =>
      clear hPS
      go_enter Tryd.func42, Tryd.ntmps42
      go_wp2_with (go_at_call 50; refine (H50.out _).mono ?_; rintro e w' ⟨rfl, rfl⟩)
      go_returns
      exact ⟨⟨_, rfl⟩, blk_set H.out 0 _, gb_set _ _ _ _⟩
    | true =>
      obtain rfl : S = true := by rcases hPS with e | e; · cases e
                                  · exact e
      clear hPS
      go_enter Tryd.func42, Tryd.ntmps42
      go_wp2_with (first | (go_at_call 50; refine (H50.out _).mono ?_; rintro e w' ⟨rfl, rfl⟩) | (go_at_call 44; refine (H44.out _).mono ?_; rintro e w' ⟨rfl, rfl⟩))
      go_returns
      exact ⟨⟨_, rfl⟩, blk_set H.out 0 _, gb_set _ _ _ _⟩
  · have hcat := bs_cat tl [c]
    have hsz := cat_ok tl [c] (by rw [List.length_singleton]; omega)
    have hA := blk_alloc H.out (.cells #[.int .u8 ((c.toNat : Nat) : Int)] 5)
    have c5a := blk_cell hA 5
    have f5a := blk_frozen hA 5
    simp only [mcells, List.getElem?_cons_zero, List.getElem?_cons_succ] at c5a
    have hB := blk_set hA 5 (.string (bs (tl ++ [c])))
    have HB := Lib.hid (show Blk ((w.alloc (.cells #[.int .u8 ((c.toNat : Nat) : Int)] 5)).setCell ⟨g, 5, none⟩ (.string (bs (tl ++ [c])))).drew g 58 (mcells ⟨st, nm, at', q, f, tl ++ [c]⟩) from blk_drew hB)
    have hgb : w.grownBy ((w.alloc (.cells #[.int .u8 ((c.toNat : Nat) : Int)] 5)).setCell ⟨g, 5, none⟩ (.string (bs (tl ++ [c])))).drew (some g) := ((gb_alloc _ _ _).trans (gb_set _ _ _ _)).trans (gb_drew _ _)
    have HG := Lib.hid hgb
    clear hA hB hgb
    have hcv2 : (convert 92 9 (.slice (some ⟨w.heap.size, 0, none⟩) 1 1)).run Tryd.prog (w.alloc (.cells #[.int .u8 ((c.toNat : Nat) : Int)] 5)).drew = .ok (.string (bs [c])) (w.alloc (.cells #[.int .u8 ((c.toNat : Nat) : Int)] 5)).drew :=
      conv_at c _ _ (cell_of_row (w.alloc (.cells #[.int .u8 ((c.toNat : Nat) : Int)] 5)).drew w.heap.size 0 #[.int .u8 ((c.toNat : Nat) : Int)] 5 (0, 0) (heap_alloc_new w _))
    have hb1 : bangM ⟨st, nm, at', q, f, tl⟩ c = if (P && decide (4 < (tl ++ [c]).length)) = true then ⟨st, nm, at', q, f, [45, 45] ++ (tl ++ [c]).drop ((tl ++ [c]).length - 2)⟩ else ⟨st, nm, at', q, f, tl ++ [c]⟩ := by
      unfold bangM
      rw [if_neg (by rw [← hP, ← hS]; intro e; apply htest; simp at e; exact ⟨e.1, e.2⟩), ← hP]
    rw [hb1]
    clear hb1 hP hS
    -- the test ahead
    have htq : ((c.toNat : Int) == 62) = false ∨ (((c.toNat : Int) == 62) = true ∧ P = true ∧ S = false) := by
      by_cases hc : c = 62
      · refine .inr ⟨by rw [hc]; rfl, ?_, ?_⟩
        · cases P with
          | true => rfl
          | false => exact absurd ⟨hc, .inl rfl⟩ htest
        · cases S with
          | false => rfl
          | true => exact absurd ⟨hc, .inr rfl⟩ htest
      · exact .inl (u8_ne 62 rfl hc)
    clear htest
    unfold u8v
    obtain ⟨X, hX⟩ : ∃ X, X = tl ++ [c] := ⟨_, rfl⟩
    have hXl : X.length = tl.length + 1 := by rw [hX, List.length_append]; rfl
    rw [← hX] at HB HG hcat ⊢
    rw [hXl]
    obtain ⟨nX, hnX⟩ : ∃ nX, nX = tl.length := ⟨_, rfl⟩
    rw [← hnX] at hXl ht ⊢
    have hXz : ((bs X).size : Int) = ((nX + 1 : Nat) : Int) := by rw [bs_size, hXl]
    have hXs : (bs X).size = nX + 1 := by rw [bs_size, hXl]
    clear hX hnX
    obtain ⟨K, hK⟩ : ∃ K : Mach, K = if (P && decide (4 < nX + 1)) = true then ⟨st, nm, at', q, f, [45, 45] ++ X.drop (nX + 1 - 2)⟩ else ⟨st, nm, at', q, f, X⟩ := ⟨_, rfl⟩
    rw [← hK]
    have HK := Lib.hid hK; clear hK
    rcases htq with tq | ⟨tq, rfl, rfl⟩
    · cases P with
      | false =>
        have hk : K = ⟨st, nm, at', q, f, X⟩ := by rw [HK.out, Bool.false_and, if_neg (by decide)]
        rw [hk]
        clear hk HK
        go_enter Tryd.func42, Tryd.ntmps42
        go_wp2_with (go_at_call 50; refine (H50.out _).mono ?_; rintro e w' ⟨rfl, rfl⟩)
        go_region
        go_wp2_with fail
        go_returns
        exact ⟨⟨_, rfl⟩, HB.out, HG.out⟩
      | true =>
        by_cases h4 : 4 < nX + 1
        · have t4 : decide (((nX : Nat) : Int) + 1 > 4) = true := by rw [decide_eq_true_eq]; omega
          have hk : K = ⟨st, nm, at', q, f, [45, 45] ++ X.drop (nX + 1 - 2)⟩ := by rw [HK.out, decide_eq_true h4]; rfl
          rw [hk]
          clear hk HK
          have hsl := str_from X (nX + 1 - 2) (by omega)
          have hYl : (X.drop (nX + 1 - 2)).length ≤ nX + 1 := by rw [List.length_drop]; omega
          obtain ⟨Y, hY⟩ : ∃ Y, Y = X.drop (nX + 1 - 2) := ⟨_, rfl⟩
          rw [← hY] at hsl hYl ⊢
          clear hY
          have hz : ((nX + 1 - 2 : Nat) : Int) = (nX : Int) + 1 - 2 := by omega
          rw [hz] at hsl
          have hcat2 : (⟨#[45, 45]⟩ : ByteArray) ++ bs Y = bs ([45, 45] ++ Y) := bs_cat [45, 45] _
          have hsz2 : ¬ 9223372036854775807 < 2 + (bs Y).size := by rw [bs_size]; omega
          go_enter Tryd.func42, Tryd.ntmps42
          go_wp2_with (first | (go_at_call 50; refine (H50.out _).mono ?_; rintro e w' ⟨rfl, rfl⟩) | (go_at_call 44; refine (H44.out _).mono ?_; rintro e w' ⟨rfl, rfl⟩))
          go_region
          clear hcat hsz c5a f5a hcv2 c0 c5 f0 f5
          obtain ⟨W3, hW3⟩ : ∃ W3, W3 = ((w'.alloc (.cells #[.int .u8 ((c.toNat : Nat) : Int)] 5)).setCell ⟨g, 5, none⟩ (.string (bs X))).drew := ⟨_, rfl⟩
          rw [← hW3] at HB HG ⊢
          clear hW3
          have d5 := blk_cell HB.out 5; have e5 := blk_frozen HB.out 5
          simp only [mcells, List.getElem?_cons_zero, List.getElem?_cons_succ] at d5
          go_wp2_with fail
          go_region
          go_wp2_with fail
          go_returns
          exact ⟨⟨_, rfl⟩, blk_drew (blk_set HB.out 5 _), HG.out.trans ((gb_set _ _ _ _).trans (gb_drew _ _))⟩
        · have t4 : decide (((nX : Nat) : Int) + 1 > 4) = false := by rw [decide_eq_false_iff_not]; omega
          have hk : K = ⟨st, nm, at', q, f, X⟩ := by rw [HK.out, decide_eq_false h4]; rfl
          rw [hk]
          clear hk HK
          go_enter Tryd.func42, Tryd.ntmps42
          go_wp2_with (first | (go_at_call 50; refine (H50.out _).mono ?_; rintro e w' ⟨rfl, rfl⟩) | (go_at_call 44; refine (H44.out _).mono ?_; rintro e w' ⟨rfl, rfl⟩))
          go_region
          clear hcat hsz c5a f5a hcv2 c0 c5 f0 f5
          obtain ⟨W3, hW3⟩ : ∃ W3, W3 = ((w'.alloc (.cells #[.int .u8 ((c.toNat : Nat) : Int)] 5)).setCell ⟨g, 5, none⟩ (.string (bs X))).drew := ⟨_, rfl⟩
          rw [← hW3] at HB HG ⊢
          clear hW3
          have d5 := blk_cell HB.out 5; have e5 := blk_frozen HB.out 5
          simp only [mcells, List.getElem?_cons_zero, List.getElem?_cons_succ] at d5
          go_wp2_with fail
          go_returns
          exact ⟨⟨_, rfl⟩, HB.out, HG.out⟩
    · have hI := True.intro
      by_cases h4 : 4 < nX + 1
      · have t4 : decide (((nX : Nat) : Int) + 1 > 4) = true := by rw [decide_eq_true_eq]; omega
        have hk : K = ⟨st, nm, at', q, f, [45, 45] ++ X.drop (nX + 1 - 2)⟩ := by rw [HK.out, decide_eq_true h4]; rfl
        rw [hk]
        clear hk HK
        have hsl := str_from X (nX + 1 - 2) (by omega)
        have hYl : (X.drop (nX + 1 - 2)).length ≤ nX + 1 := by rw [List.length_drop]; omega
        obtain ⟨Y, hY⟩ : ∃ Y, Y = X.drop (nX + 1 - 2) := ⟨_, rfl⟩
        rw [← hY] at hsl hYl ⊢
        clear hY
        have hz : ((nX + 1 - 2 : Nat) : Int) = (nX : Int) + 1 - 2 := by omega
        rw [hz] at hsl
        have hcat2 : (⟨#[45, 45]⟩ : ByteArray) ++ bs Y = bs ([45, 45] ++ Y) := bs_cat [45, 45] _
        have hsz2 : ¬ 9223372036854775807 < 2 + (bs Y).size := by rw [bs_size]; omega
        go_enter Tryd.func42, Tryd.ntmps42
        go_wp2_with (first | (go_at_call 50; refine (H50.out _).mono ?_; rintro e w' ⟨rfl, rfl⟩) | (go_at_call 44; refine (H44.out _).mono ?_; rintro e w' ⟨rfl, rfl⟩))
        go_region
        clear hcat hsz c5a f5a hcv2 c0 c5 f0 f5
        obtain ⟨W3, hW3⟩ : ∃ W3, W3 = ((w'.alloc (.cells #[.int .u8 ((c.toNat : Nat) : Int)] 5)).setCell ⟨g, 5, none⟩ (.string (bs X))).drew := ⟨_, rfl⟩
        rw [← hW3] at HB HG ⊢
        clear hW3
        have d5 := blk_cell HB.out 5; have e5 := blk_frozen HB.out 5
        simp only [mcells, List.getElem?_cons_zero, List.getElem?_cons_succ] at d5
        go_wp2_with fail
        go_region
        go_wp2_with fail
        go_returns
        exact ⟨⟨_, rfl⟩, blk_drew (blk_set HB.out 5 _), HG.out.trans ((gb_set _ _ _ _).trans (gb_drew _ _))⟩
      · have t4 : decide (((nX : Nat) : Int) + 1 > 4) = false := by rw [decide_eq_false_iff_not]; omega
        have hk : K = ⟨st, nm, at', q, f, X⟩ := by rw [HK.out, decide_eq_false h4]; rfl
        rw [hk]
        clear hk HK
        go_enter Tryd.func42, Tryd.ntmps42
        go_wp2_with (first | (go_at_call 50; refine (H50.out _).mono ?_; rintro e w' ⟨rfl, rfl⟩) | (go_at_call 44; refine (H44.out _).mono ?_; rintro e w' ⟨rfl, rfl⟩))
        go_region
        clear hcat hsz c5a f5a hcv2 c0 c5 f0 f5
        obtain ⟨W3, hW3⟩ : ∃ W3, W3 = ((w'.alloc (.cells #[.int .u8 ((c.toNat : Nat) : Int)] 5)).setCell ⟨g, 5, none⟩ (.string (bs X))).drew := ⟨_, rfl⟩
        rw [← hW3] at HB HG ⊢
        clear hW3
        have d5 := blk_cell HB.out 5; have e5 := blk_frozen HB.out 5
        simp only [mcells, List.getElem?_cons_zero, List.getElem?_cons_succ] at d5
        go_wp2_with fail
        go_returns
        exact ⟨⟨_, rfl⟩, HB.out, HG.out⟩
end Go.Proofs.YthilkpjdfjjikaaDoor
end
