/-
  Texts of this seat, joined: Nam, RwB. Each says what it proves, ahead of itself.
-/
import Derived.Lib.SmallJoins
import Derived.Lib.LaidTab
import Derived.Lib.LaidIn
import Derived.Lib.LaidU8T
import Derived.ChangeSame
import Derived.ChangeVars
import Derived.JoinedOf
import Derived.RowKit
import Derived.RowKitTokens
import Derived.LaidLaws
import Derived.LaidHandle
import Derived.Stop.Joined
import Derived.Deep.DeepHandedRow
import Derived.ProofKit
import Derived.OpenShut
import Derived.ShutString
import Derived.ChangeOld
import Derived.Below
import Derived.Test.YthilkpjdfjjikaaDoorRows
import Derived.Test.YthilkpjdfjjikaaDoorShelf
import Derived.Test.YthilkpjdfjjikaaDoorMchM
import Derived.Test.YthilkpjdfjjikaaDoorDecM
set_option linter.unusedVariables false
set_option linter.unusedSimpArgs false
section
/-
  Names and paths of a tag.
-/
namespace Go.Proofs.YthilkpjdfjjikaaDoor
open Go.RowKit

theorem asp : Tryd.prog.globalNamed "strings.asciiSpace" = some 3 := by kernel_rfl
/-- What the walks ask of the library's variables. -/
def Tabs (w : World) : Prop := Lib.Utf8Tabs 0 1 w ∧ Lib.TabIs Tryd.prog w "strings.asciiSpace" .u8 Lib.asciiSpaceTab ∧ ∃ m, w.cell? ⟨2, 0, none⟩ = some (.int .i64 m)
theorem cell_lt {w : World} {a : Addr} {v : Value} (h : w.cell? a = some v) : a.block < w.heap.size := by
  rcases Nat.lt_or_ge a.block w.heap.size with h' | h'
  · exact h'
  · simp [World.cell?, h'] at h
theorem Tabs.below {w w' : World} (h : Tabs w) (hb : Below w.heap.size w w') : Tabs w' := by
  obtain ⟨h1, h2, m, h3⟩ := h
  exact ⟨Utf8Tabs_below h1 hb, Joins.tab_stays asp h2 hb (Nat.le_refl _), m, by rw [hb.cell (cell_lt h3)]; exact h3⟩
def resW : List Bs := [[104, 116, 109, 108], [102, 111, 114], [105, 110], [105, 102], [101, 108, 115, 101], [101, 110, 100]]
def resB (s : Bs) : Bool := decide (s ∈ resW)
theorem bs_inj {a b : Bs} (h : bs a = bs b) : a = b := by have := congrArg (fun x : ByteArray => x.data.toList) h; exact this
theorem res_fields : Lib.fields [104, 116, 109, 108, 32, 102, 111, 114, 32, 105, 110, 32, 105, 102, 32, 101, 108, 115, 101, 32, 101, 110, 100] = resW := by decide
theorem res_contains (s : Bs) : Lib.containsS ((resW.map bs).take 6) (bs s) = resB s := by
  unfold resB
  rw [Bool.eq_iff_iff, Lib.containsS_iff, decide_eq_true_eq, show (resW.map bs).take 6 = resW.map bs from rfl, List.mem_map]
  constructor
  · rintro ⟨y, hy, e⟩; rw [← bs_inj e]; exact hy
  · intro h; exact ⟨s, h, rfl⟩
set_option maxHeartbeats 2000000 in
set_option maxRecDepth 100000 in
theorem reserved_any (s : Bs) (w : World) (hT : Tabs w) : Calls Tryd.prog 68 #[.string (bs s)] w fun e w' => e = .returned (.bool (resB s)) ∧ Below w.heap.size w w' := by
  have h80 := Tryd.strings_Fields ⟨#[104, 116, 109, 108, 32, 102, 111, 114, 32, 105, 110, 32, 105, 102, 32, 101, 108, 115, 101, 32, 101, 110, 100]⟩ w (by decide) (by
    intro j b hj
    have hm : b ∈ ([104, 116, 109, 108, 32, 102, 111, 114, 32, 105, 110, 32, 105, 102, 32, 101, 108, 115, 101, 32, 101, 110, 100] : Bs) := List.mem_of_getElem? hj
    have ha : ∀ x ∈ ([104, 116, 109, 108, 32, 102, 111, 114, 32, 105, 110, 32, 105, 102, 32, 101, 108, 115, 101, 32, 101, 110, 100] : Bs), x.toNat < 128 := by decide
    exact ha b hm) hT.2.1
  rw [show (⟨#[104, 116, 109, 108, 32, 102, 111, 114, 32, 105, 110, 32, 105, 102, 32, 101, 108, 115, 101, 32, 101, 110, 100]⟩ : ByteArray).data.toList = [104, 116, 109, 108, 32, 102, 111, 114, 32, 105, 110, 32, 105, 102, 32, 101, 108, 115, 101, 32, 101, 110, 100] from rfl, res_fields] at h80
  have H80 := Lib.hid h80; clear h80
  have hb : Below w.heap.size w (w.alloc (.cells (resW.map fun l => Value.string ⟨l.toArray⟩).toArray 9)) := (Below.refl _ w).alloc (Nat.le_refl _) _
  have hc := Tryd.slices_Contains_string w.heap.size 0 6 6 (resW.map bs) (bs s) (w.alloc (.cells (resW.map fun l => Value.string ⟨l.toArray⟩).toArray 9)) (by decide) (by decide) (fun j hj => by
    rw [Nat.zero_add, cell_of_row _ w.heap.size j (resW.map fun l => Value.string ⟨l.toArray⟩).toArray 9 (0, 0) (heap_alloc_new w _)]
    have hj6 : j < 6 := hj
    match j, hj6 with
    | 0, _ => rfl
    | 1, _ => rfl
    | 2, _ => rfl
    | 3, _ => rfl
    | 4, _ => rfl
    | 5, _ => rfl)
  rw [res_contains] at hc
  have H51 := Lib.hid hc; clear hc
  obtain ⟨W, hW⟩ : ∃ W, W = w.alloc (.cells (resW.map fun l => Value.string ⟨l.toArray⟩).toArray 9) := ⟨_, rfl⟩
  rw [← hW] at H80 H51 hb
  rw [show resW.length = 6 from rfl] at H80
  clear hW
  go_enter Tryd.func68, Tryd.ntmps68
  go_wp2_with fail
  refine H80.out.mono ?_
  rintro e w1 ⟨rfl, rfl⟩
  go_wp2_with fail
  refine H51.out.mono ?_
  rintro e w2 ⟨rfl, rfl⟩
  go_wp2_with fail
  go_ret
  exact ⟨rfl, hb⟩

def okN (j y : Nat) : Bool := (decide (97 ≤ y) && decide (y ≤ 122)) || (decide (0 < j) && ((decide (48 ≤ y) && decide (y ≤ 57)) || decide (y = 95)))
def okFrom : Nat → Bs → Bool
  | _, [] => true
  | j, c :: r => okN j c.toNat && okFrom (j + 1) r
def nameB (s : Bs) : Bool := okFrom 0 s && decide (0 < s.length) && decide (s.length ≤ 30) && !resB s
theorem decN_big (b0 : Nat) (o1 o2 o3 : Option Nat) (h : 128 ≤ b0) : 128 ≤ (decN b0 o1 o2 o3).1 := by
  unfold decN
  rw [if_neg (by omega)]
  split
  · dsimp only; split
    · rename_i hc; exact hc
    · show 128 ≤ 65533; omega
  · split
    · dsimp only; split
      · rename_i hc; rw [Bool.and_eq_true, decide_eq_true_eq] at hc; have := hc.1; show 128 ≤ _; dsimp only; omega
      · show 128 ≤ 65533; omega
    · split
      · dsimp only; split
        · rename_i hc; rw [Bool.and_eq_true, decide_eq_true_eq] at hc; have := hc.1; show 128 ≤ _; dsimp only; omega
        · show 128 ≤ 65533; omega
      · show 128 ≤ 65533; omega
/-- At a place: the rune is the byte, or both are no ASCII. -/
theorem dec_at (s : Bs) (m : Nat) (x : UInt8) (r : Bs) (h : s.drop m = x :: r) : (x.toNat < 128 ∧ Utf8.decode (bs s) m = (x.toNat, 1)) ∨ (128 ≤ x.toNat ∧ 128 ≤ (Utf8.decode (bs s) m).1) := by
  have hi : m < s.length := by
    rcases Nat.lt_or_ge m s.length with h' | h'
    · exact h'
    · rw [List.drop_of_length_le h'] at h; cases h
  have hx : s.getD m 0 = x := by
    have := congrArg (fun l => l.getD 0 0) h
    simpa [List.getD_eq_getElem?_getD, List.getElem?_drop] using this
  have hd := decode_decN s m hi
  rw [hx] at hd
  have hd' : Utf8.decode (bs s) m = _ := hd
  rw [hd']
  by_cases h128 : x.toNat < 128
  · refine .inl ⟨h128, ?_⟩
    unfold decN
    rw [if_pos h128]
  · exact .inr ⟨by omega, decN_big _ _ _ _ (by omega)⟩
theorem dec_le (S : ByteArray) (i : Nat) : (Utf8.decode S i).1 ≤ 1114111 := Lib.rune_le S i
set_option maxHeartbeats 4000000 in
set_option maxRecDepth 100000 in
theorem name_any (s : Bs) (w : World) (hT : Tabs w) (hl : s.length ≤ 1000000) : Calls Tryd.prog 48 #[.string (bs s)] w fun e w' => e = .returned (.bool (nameB s)) ∧ Below w.heap.size w w' := by
  have hsz : (bs s).size = s.length := bs_size s
  have HD := Lib.hid (dec_at s)
  have H68 : Hid (∀ W, Below w.heap.size w W → Calls Tryd.prog 68 #[.string (bs s)] W fun e w' => e = .returned (.bool (resB s)) ∧ Below W.heap.size W w') := fun W hb => reserved_any s W (hT.below hb)
  have hnB : nameB s = (okFrom 0 s && decide (0 < s.length) && decide (s.length ≤ 30) && !resB s) := rfl
  obtain ⟨N, hN⟩ : ∃ N, N = nameB s := ⟨_, rfl⟩
  rw [← hN] at hnB ⊢
  have HNB := Lib.hid hnB; clear hnB hN hT
  obtain ⟨S, hS⟩ : ∃ S, S = bs s := ⟨_, rfl⟩
  rw [← hS] at hsz HD H68 ⊢
  clear hS
  obtain ⟨n, hn⟩ : ∃ n, n = s.length := ⟨_, rfl⟩
  rw [← hn] at hsz hl HNB
  have Hn := Lib.hid hn; have Hsz := Lib.hid hsz; clear hn hsz
  go_enter Tryd.func48, Tryd.ntmps48
  go_wp2_with fail
  go_loopw [] (fun wr => ∃ m : Nat, m ≤ n ∧ okFrom 0 s = okFrom m (s.drop m) ∧ wr.heap[w.heap.size]? = some (.stringIter S m) ∧ Below w.heap.size w wr)
    (fun wr => n - wr.iterPos w.heap.size)
  case atStart => exact ⟨0, by omega, rfl, World.iter_heap w S 0, (Below.refl _ w).alloc (Nat.le_refl _) _⟩
  case round =>
    obtain ⟨m, hm, hok, hit, hB⟩ := hrel
    have hip : wr.iterPos w.heap.size = m := by unfold World.iterPos; rw [hit]
    have Hip := Lib.hid hip; have Hok := Lib.hid hok
    clear hip hok
    by_cases hmn : m < n
    · obtain ⟨x, r, hxr⟩ : ∃ x r, s.drop m = x :: r := by
        cases hd : s.drop m with
        | nil => have := congrArg List.length hd; rw [List.length_drop, ← Hn.out] at this; simp at this; omega
        | cons x r => exact ⟨x, r, rfl⟩
      have hd := HD.out m x r hxr
      have hle := dec_le S m
      have hok2 : okFrom 0 s = (okN m x.toNat && okFrom (m + 1) (s.drop (m + 1))) := by
        have e : s.drop (m + 1) = r := by rw [← List.drop_drop, hxr]; rfl
        rw [Hok.out, hxr, e]; rfl
      have hnx := fun ty => Lib.run_next_any_at (P := Tryd.prog) wr w.heap.size S m ty hit (by rw [Hsz.out]; exact hmn)
      obtain ⟨y, hy⟩ : ∃ y, y = (Utf8.decode S m).1 := ⟨_, rfl⟩
      obtain ⟨k, hk⟩ : ∃ k, k = (Utf8.decode S m).2 := ⟨_, rfl⟩
      have hcase : (x.toNat < 128 ∧ y = x.toNat ∧ k = 1) ∨ (128 ≤ x.toNat ∧ 128 ≤ y) := by
        rcases hd with ⟨h1, h2⟩ | ⟨h1, h2⟩
        · exact .inl ⟨h1, by rw [hy, h2], by rw [hk, h2]⟩
        · exact .inr ⟨h1, by rw [hy]; exact h2⟩
      rw [← hy] at hle
      rw [← hy, ← hk] at hnx
      have hokN : okN m x.toNat = okN m y := by
        rcases hcase with ⟨_, h2, _⟩ | ⟨h1, h2⟩
        · rw [h2]
        · unfold okN
          rw [Bool.eq_iff_iff]; simp; omega
      rw [hokN] at hok2
      have Hok2 := Lib.hid hok2
      have Hcase := Lib.hid hcase
      obtain ⟨W, hW⟩ : ∃ W, W = wr.iterAt w.heap.size S (m + k) := ⟨_, rfl⟩
      rw [← hW] at hnx
      have hitW : W.heap[w.heap.size]? = some (.stringIter S (m + k)) := by rw [hW]; exact Lib.iterAt_heap _ _ _ _ _ hit
      have hBW : Below w.heap.size w W := by rw [hW]; exact Lib.below_iterAt hB (Nat.le_refl _) _ _
      have hipW : W.iterPos w.heap.size = m + k := by unfold World.iterPos; rw [hitW]
      have HipW := Lib.hid hipW
      clear hW hit hipW hd hy hk hcase hokN hok2 hxr
      by_cases h97 : 97 ≤ y
      · have t97 : decide ((y : Int) ≥ 97) = true := by rw [decide_eq_true_eq]; omega
        by_cases h122 : y ≤ 122
        · have t122 : decide ((y : Int) ≤ 122) = true := by rw [decide_eq_true_eq]; omega
          have hk1 : k = 1 := by
            rcases Hcase.out with ⟨_, _, h3⟩ | ⟨_, h2⟩
            · exact h3
            · omega
          subst hk1
          have hnext : okFrom 0 s = okFrom (m + 1) (s.drop (m + 1)) := by
            rw [Hok2.out]
            have : okN m y = true := by unfold okN; simp; omega
            rw [this, Bool.true_and]
          have HX := Lib.hid hnext; clear hnext
          go_wp2_with fail
          go_roundw
          case rel => exact ⟨m + 1, by omega, HX.out, hitW, hBW⟩
          case measure => rw [Hip.out, HipW.out]; omega
        · have t122 : decide ((y : Int) ≤ 122) = false := by rw [decide_eq_false_iff_not]; omega
          have t57 : decide ((y : Int) ≤ 57) = false := by rw [decide_eq_false_iff_not]; omega
          have t48 : decide ((y : Int) ≥ 48) = true := by rw [decide_eq_true_eq]; omega
          have t95 : ((y : Int) == 95) = false := by rw [beq_eq_false_iff_ne]; omega
          by_cases hm0 : 0 < m
          · have tm : decide ((m : Int) > 0) = true := by rw [decide_eq_true_eq]; omega
            have hN : N = false := by
              have : okN m y = false := by unfold okN; rw [Bool.eq_false_iff]; simp; omega
              rw [HNB.out, Hok2.out, this, Bool.false_and, Bool.false_and, Bool.false_and, Bool.false_and]
            have HN := Lib.hid hN; clear hN
            go_wp2_with fail
            go_ret
            exact ⟨by rw [HN.out]; rfl, hBW⟩
          · have tm : decide ((m : Int) > 0) = false := by rw [decide_eq_false_iff_not]; omega
            have hN : N = false := by
              have : okN m y = false := by unfold okN; rw [Bool.eq_false_iff]; simp; omega
              rw [HNB.out, Hok2.out, this, Bool.false_and, Bool.false_and, Bool.false_and, Bool.false_and]
            have HN := Lib.hid hN; clear hN
            go_wp2_with fail
            go_ret
            exact ⟨by rw [HN.out]; rfl, hBW⟩
      · have t97 : decide ((y : Int) ≥ 97) = false := by rw [decide_eq_false_iff_not]; omega
        by_cases hm0 : 0 < m
        · have tm : decide ((m : Int) > 0) = true := by rw [decide_eq_true_eq]; omega
          by_cases h48 : 48 ≤ y
          · have t48 : decide ((y : Int) ≥ 48) = true := by rw [decide_eq_true_eq]; omega
            by_cases h57 : y ≤ 57
            · have t57 : decide ((y : Int) ≤ 57) = true := by rw [decide_eq_true_eq]; omega
              have hk1 : k = 1 := by
                rcases Hcase.out with ⟨_, _, h3⟩ | ⟨_, h2⟩
                · exact h3
                · omega
              subst hk1
              have hnext : okFrom 0 s = okFrom (m + 1) (s.drop (m + 1)) := by
                rw [Hok2.out]
                have : okN m y = true := by unfold okN; simp; omega
                rw [this, Bool.true_and]
              have HX := Lib.hid hnext; clear hnext
              go_wp2_with fail
              go_roundw
              case rel => exact ⟨m + 1, by omega, HX.out, hitW, hBW⟩
              case measure => rw [Hip.out, HipW.out]; omega
            · have t57 : decide ((y : Int) ≤ 57) = false := by rw [decide_eq_false_iff_not]; omega
              by_cases h95 : y = 95
              · have t95 : ((y : Int) == 95) = true := by rw [beq_iff_eq]; omega
                have hk1 : k = 1 := by
                  rcases Hcase.out with ⟨_, _, h3⟩ | ⟨_, h2⟩
                  · exact h3
                  · omega
                subst hk1
                have hnext : okFrom 0 s = okFrom (m + 1) (s.drop (m + 1)) := by
                  rw [Hok2.out]
                  have : okN m y = true := by unfold okN; simp; omega
                  rw [this, Bool.true_and]
                have HX := Lib.hid hnext; clear hnext
                go_wp2_with fail
                go_roundw
                case rel => exact ⟨m + 1, by omega, HX.out, hitW, hBW⟩
                case measure => rw [Hip.out, HipW.out]; omega
              · have t95 : ((y : Int) == 95) = false := by rw [beq_eq_false_iff_ne]; omega
                have hN : N = false := by
                  have : okN m y = false := by unfold okN; rw [Bool.eq_false_iff]; simp; omega
                  rw [HNB.out, Hok2.out, this, Bool.false_and, Bool.false_and, Bool.false_and, Bool.false_and]
                have HN := Lib.hid hN; clear hN
                go_wp2_with fail
                go_ret
                exact ⟨by rw [HN.out]; rfl, hBW⟩
          · have t48 : decide ((y : Int) ≥ 48) = false := by rw [decide_eq_false_iff_not]; omega
            have t95 : ((y : Int) == 95) = false := by rw [beq_eq_false_iff_ne]; omega
            have hN : N = false := by
              have : okN m y = false := by unfold okN; rw [Bool.eq_false_iff]; simp; omega
              rw [HNB.out, Hok2.out, this, Bool.false_and, Bool.false_and, Bool.false_and, Bool.false_and]
            have HN := Lib.hid hN; clear hN
            go_wp2_with fail
            go_ret
            exact ⟨by rw [HN.out]; rfl, hBW⟩
        · have tm : decide ((m : Int) > 0) = false := by rw [decide_eq_false_iff_not]; omega
          have hN : N = false := by
            have : okN m y = false := by unfold okN; rw [Bool.eq_false_iff]; simp; omega
            rw [HNB.out, Hok2.out, this, Bool.false_and, Bool.false_and, Bool.false_and, Bool.false_and]
          have HN := Lib.hid hN; clear hN
          go_wp2_with fail
          go_ret
          exact ⟨by rw [HN.out]; rfl, hBW⟩
    · obtain rfl : m = n := by omega
      have hnx := fun ty => Lib.run_next_end_at (P := Tryd.prog) wr w.heap.size S m ty hit (by rw [Hsz.out]; exact hmn)
      have hend : okFrom 0 s = true := by
        rw [Hok.out, List.drop_of_length_le (by rw [← Hn.out]; exact Nat.le_refl _)]; rfl
      have hsz := Hsz.out
      by_cases h0 : 0 < m
      · have t0 : decide ((m : Int) > 0) = true := by rw [decide_eq_true_eq]; omega
        by_cases h30 : m ≤ 30
        · have t30 : decide ((m : Int) ≤ 30) = true := by rw [decide_eq_true_eq]; omega
          have hN : N = !resB s := by rw [HNB.out, hend, decide_eq_true h0, decide_eq_true h30]; rfl
          have HN := Lib.hid hN; clear hN hend
          have HC := Lib.hid (H68.out wr hB)
          obtain ⟨rb, hrb⟩ : ∃ rb, rb = resB s := ⟨_, rfl⟩
          rw [← hrb] at HC HN
          clear hrb
          go_wp2_with (go_at_call 68; refine HC.out.mono ?_; rintro e w9 ⟨rfl, hb9⟩)
          go_ret
          exact ⟨by rw [HN.out]; rfl, hB.trans (hb9.mono hB.size)⟩
        · have t30 : decide ((m : Int) ≤ 30) = false := by rw [decide_eq_false_iff_not]; omega
          have hN : N = false := by rw [HNB.out, decide_eq_false h30, Bool.and_false, Bool.false_and]
          have HN := Lib.hid hN; clear hN hend
          go_wp2_with fail
          go_ret
          exact ⟨by rw [HN.out]; rfl, hB⟩
      · have t0 : decide ((m : Int) > 0) = false := by rw [decide_eq_false_iff_not]; omega
        have hN : N = false := by rw [HNB.out, decide_eq_false h0, Bool.and_false, Bool.false_and, Bool.false_and]
        have HN := Lib.hid hN; clear hN hend
        go_wp2_with fail
        go_ret
        exact ⟨by rw [HN.out]; rfl, hB⟩
end Go.Proofs.YthilkpjdfjjikaaDoor
end
section
/-
  What all rows of this seat share: the listed tables, a world that holds them, what a walk is given.
-/
namespace Go.Proofs.YthilkpjdfjjikaaDoor
open Go.ChangeShapes Go.WideShapes Go.ChangeAt Go.RowKit Go.Shelf
open Go.ChangeMaps (open_string shut_string)

theorem ownB : ownKnob Tryd.prog.godebug = Option.none := by kernel_rfl
theorem laidOutAll : laidOutB Tryd.prog = true := by kernel_rfl
def laidL : List (String × DataW Unit) := [("unicode/utf8.acceptRanges", Rows.laid_unicode_utf8_acceptRanges), ("unicode.White_Space", Rows.laid_unicode_White_Space), ("strings.asciiSpace", Rows.laid_strings_asciiSpace), ("unicode/utf8.first", Rows.laid_unicode_utf8_first)]
theorem first_eq : Rows.laid_unicode_utf8_first = Lib.firstData := by kernel_rfl
theorem accept_eq : (Rows.laid_unicode_utf8_acceptRanges : DataW Unit) = Lib.acceptData := by kernel_rfl
theorem white_eq : (Rows.laid_unicode_White_Space : DataW Unit) = Lib.whiteData := by kernel_rfl
theorem space_eq : (Rows.laid_strings_asciiSpace : DataW Unit) = Lib.tabData .u8 Lib.asciiSpaceTab := by kernel_rfl
theorem laidL_eq : laidL = [("unicode/utf8.acceptRanges", Lib.acceptData), ("unicode.White_Space", Lib.whiteData), ("strings.asciiSpace", Lib.tabData .u8 Lib.asciiSpaceTab), ("unicode/utf8.first", Lib.firstData)] := by
  unfold laidL; rw [first_eq, accept_eq, white_eq, space_eq]
/-- The witness: the settled world with two blocks more (the blanks' ranges, their table), the four variables holding what their initialisers lay. -/
noncomputable def laidWorld (os : Os) : World :=
  let N := (World.settled Tryd.prog os).heap.size
  let w0 := World.holding Tryd.prog os ⟨#[.cells (Lib.whiteT.map fun (z : Nat) => Value.int .u16 (z : Int)).toArray 128, .cells #[.slice (some ⟨N, 0, Option.none⟩) 7 7, .slice Option.none 0 0, .int .i64 2] 125], #[], []⟩
  let put (h : Array Obj) (g : Nat) (cs : Array Value) : Array Obj := h.modify g fun
    | .cells _ t frozen => .cells cs t frozen
    | o => o
  let h1 := put w0.heap 0 (Lib.firstTab.map fun z => Value.int .u8 z).toArray
  let h2 := put h1 1 ((List.range 16).flatMap fun i => [Value.int .u8 (Lib.accLo i), Value.int .u8 (Lib.accHi i)]).toArray
  let h3 := put h2 3 (Lib.asciiSpaceTab.map fun z => Value.int .u8 z).toArray
  let h4 := put h3 4 #[.pointer (some ⟨N + 1, 0, Option.none⟩)]
  { w0 with heap := h4 }
theorem laid_met (os : Os) (args : Array Value) : laidMetH Tryd.prog laidL ((laidWorld os).forCall (fun _ _ => 0) ⟨#[], args, []⟩).memory := by
  rw [laidL_eq]
  exact (LaidIn.of_run (l := [("unicode/utf8.acceptRanges", Lib.acceptData), ("unicode.White_Space", Lib.whiteData), ("strings.asciiSpace", Lib.tabData .u8 Lib.asciiSpaceTab), ("unicode/utf8.first", Lib.firstData)]) [1, 4, 3, 0, (World.settled Tryd.prog default).heap.size, (World.settled Tryd.prog default).heap.size + 1] 10 (by kernel_rfl) (by kernel_rfl) (by kernel_rfl) (by kernel_rfl)).met
/-- What the conditions give a walk. -/
theorem tabs_of {W : World} (hL : laidMetH Tryd.prog laidL W) (hs : W.ShapedOpen Tryd.prog) : Tabs W := by
  rw [laidL_eq] at hL
  refine ⟨utf8Tabs_of_readsT (U8Types.of260 Tryd.lays260) ⟨by kernel_rfl, by kernel_rfl, by kernel_rfl, by kernel_rfl, by kernel_rfl, by kernel_rfl, by kernel_rfl⟩ (Lib.laidMet.reads hL (.tail _ (.tail _ (.tail _ (.head _))))) (Lib.laidMet.reads hL (.head _)), ?_, ?_⟩
  · obtain ⟨g, t, cs, fuel, q, h1, h2, h3, h4⟩ := Lib.laidMet.reads hL (n := "strings.asciiSpace") (d := Lib.tabData .u8 Lib.asciiSpaceTab) (.tail _ (.tail _ (.head _)))
    obtain rfl : g = 3 := Option.some.inj (h1.symm.trans asp)
    obtain rfl : t = 109 := Option.some.inj (h2.symm.trans (show (Tryd.prog.globals[3]?).map (·.type) = some 109 by kernel_rfl))
    unfold Lib.TabIs
    rw [h3, ← Lib.cells_of_tab (n := 256) (e := 5) Tryd.underlying109 Tryd.underlying5 (by kernel_rfl) (by kernel_rfl) h4]
  · exact Go.Proofs.cell_of_shapedOpen_int (zero := #[.int .i64 0]) (t := 3) hs (of_decide_eq_true (by kernel_rfl)) (by kernel_rfl) rfl (by kernel_rfl) (by kernel_rfl) Tryd.underlying3
end Go.Proofs.YthilkpjdfjjikaaDoor
end
