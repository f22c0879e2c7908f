/-
  Texts of this seat, joined: Bad, Lxp. Each says what it proves, ahead of itself.
-/
import Derived.Test.YthilkpjdfjjikaaDoorDecM
import Derived.Test.YthilkpjdfjjikaaDoorPthM
import Derived.Test.YthilkpjdfjjikaaDoorPrwM
import Derived.Test.YthilkpjdfjjikaaDoorMsp
set_option linter.unusedVariables false
set_option linter.unusedSimpArgs false
section
/-
  lex.bad: where the first bad byte is.
-/
namespace Go.Proofs.YthilkpjdfjjikaaDoor
open Go.RowKit

def badFrom : Nat → Bs → Nat → Option Nat
  | 0, _, _ => none
  | _ + 1, [], _ => none
  | f + 1, x :: r, i => if (readL (x :: r)).1 < 0 then some i else badFrom f ((x :: r).drop (readL (x :: r)).2) (i + (readL (x :: r)).2)
def badL (s : Bs) : Option Nat := badFrom s.length s 0
def badZ : Option Nat → Int
  | none => -1
  | some i => (i : Int)
set_option maxHeartbeats 4000000 in
set_option maxRecDepth 100000 in
theorem bad_any (s : Bs) (w : World) (hT : Tabs w) (hl : s.length ≤ 1000000) : Calls Tryd.prog 26 #[.string (bs s)] w fun e w' => e = .returned (.int .i64 (badZ (badL s))) ∧ Below w.heap.size w w' := by
  have hsz : (bs s).size = s.length := bs_size s
  have HD := Lib.hid (decode_read s)
  have H38 : Hid (∀ (m : Nat) (x : UInt8) (r : Bs), s.drop m = x :: r → ∀ W, Below w.heap.size w W → Calls Tryd.prog 38 #[.string (bs (s.drop m))] W fun e w' => e = .returned (.tuple #[.int .i32 (((fixP (readL (x :: r)).1).toNat : Nat) : Int), .int .i64 (((readL (x :: r)).2 : Nat) : Int)]) ∧ Below W.heap.size W w') := by
    intro m x r h W hb
    have h1 := Tryd.utf8_DecodeRuneInString (bs (s.drop m)) W (hT.below hb).1
    have h2 : Lib.decodeGo (bs (s.drop m)) = ((fixP (readL (x :: r)).1).toNat, (readL (x :: r)).2) := by
      unfold Lib.decodeGo
      rw [if_neg (by rw [bs_size, h]; simp)]
      rw [h]
      exact decode_read (x :: r) 0 x r rfl
    rw [h2] at h1
    exact h1
  have hsl := str_from s
  have HSL := Lib.hid hsl; clear hsl hT
  obtain ⟨R, hR⟩ : ∃ R, R = badZ (badL s) := ⟨_, rfl⟩
  rw [← hR]
  have HR := Lib.hid hR; clear hR
  obtain ⟨S, hS⟩ : ∃ S, S = bs s := ⟨_, rfl⟩
  have HD : Hid (∀ (i : Nat) (x : UInt8) (r : List UInt8), List.drop i s = x :: r → Utf8.decode S i = ((fixP (readL (x :: r)).1).toNat, (readL (x :: r)).2)) := by rw [hS]; exact HD
  rw [← hS] at hsz HSL ⊢
  clear hS
  obtain ⟨n, hn⟩ : ∃ n, n = s.length := ⟨_, rfl⟩
  rw [← hn] at hsz hl HSL
  have Hn := Lib.hid hn; have Hsz := Lib.hid hsz; clear hn hsz
  go_enter Tryd.func26, Tryd.ntmps26
  go_wp2_with fail
  go_loopw [] (fun wr => ∃ m F : Nat, m ≤ n ∧ n - m ≤ F ∧ badL s = badFrom F (s.drop m) m ∧ wr.heap[w.heap.size]? = some (.stringIter S m) ∧ Below w.heap.size w wr)
    (fun wr => n - wr.iterPos w.heap.size)
  case atStart => exact ⟨0, n, by omega, by omega, by rw [Hn.out]; rfl, World.iter_heap w S 0, (Below.refl _ w).alloc (Nat.le_refl _) _⟩
  case round =>
    obtain ⟨m, F, hm, hF, hbd, hit, hB⟩ := hrel
    have hip : wr.iterPos w.heap.size = m := by unfold World.iterPos; rw [hit]
    have Hip := Lib.hid hip; have Hbd := Lib.hid hbd
    clear hip hbd
    by_cases hmn : m < n
    · obtain ⟨x, r, hxr⟩ : ∃ x r, s.drop m = x :: r := by
        cases hd : s.drop m with
        | nil => have := congrArg List.length hd; rw [List.length_drop, ← Hn.out] at this; simp at this; omega
        | cons x r => exact ⟨x, r, rfl⟩
      have hrl : r.length + 1 = n - m := by have := congrArg List.length hxr; rw [List.length_drop, ← Hn.out] at this; simpa using this.symm
      have hd := HD.out m x r hxr
      have hle := readL_le x r
      have hneg := readL_neg x r
      have herr := readL_err x r
      obtain ⟨F, rfl⟩ : ∃ F', F = F' + 1 := ⟨F - 1, by omega⟩
      have hb2 : badL s = if (readL (x :: r)).1 < 0 then some m else badFrom F (s.drop (m + (readL (x :: r)).2)) (m + (readL (x :: r)).2) := by
        rw [Hbd.out, hxr, ← List.drop_drop, hxr]; rfl
      have hc38 := H38.out m x r hxr
      have hsl := HSL.out m hm
      have hnx := fun ty => Lib.run_next_any_at (P := Tryd.prog) wr w.heap.size S m ty hit (by rw [Hsz.out]; exact hmn)
      rw [hd] at hnx
      dsimp only at hnx
      obtain ⟨p, hp⟩ : ∃ p, p = (readL (x :: r)).1 := ⟨_, rfl⟩
      obtain ⟨k, hk⟩ : ∃ k, k = (readL (x :: r)).2 := ⟨_, rfl⟩
      have hcase : (p < 0 ∧ p = -1 ∧ k = 1) ∨ (0 ≤ p ∧ ¬ (p = 65533 ∧ k = 1)) := by
        by_cases h0 : p < 0
        · have := hneg (by rw [← hp]; exact h0)
          exact .inl ⟨h0, by rw [hp, this], by rw [hk, this]⟩
        · refine .inr ⟨by omega, ?_⟩
          rintro ⟨h1, h2⟩
          have := herr (by rw [← hp]; exact h1)
          rw [← hk] at this
          omega
      rw [← hp, ← hk] at hb2
      rw [← hk] at hle
      simp only [← hp, ← hk] at hnx hc38
      have Hb2 := Lib.hid hb2
      clear hd hneg herr hp hk hxr hb2
      have hsW := (World.iter_heap w S 0)
      obtain ⟨W, hW⟩ : ∃ W, W = wr.iterAt w.heap.size S (m + k) := ⟨_, rfl⟩
      rw [← hW] at hnx
      have hitW : W.heap[w.heap.size]? = some (.stringIter S (m + k)) := by rw [hW]; exact Lib.iterAt_heap _ _ _ _ _ hit
      have hBW : Below w.heap.size w W := by rw [hW]; exact Lib.below_iterAt hB (Nat.le_refl _) _ _
      have hlt : w.heap.size < W.heap.size := (Array.getElem?_eq_some_iff.1 hitW).1
      have HC := Lib.hid (hc38 W hBW)
      clear hW hit hc38 hsW
      rcases hcase with ⟨h0, rfl, rfl⟩ | ⟨h0, hno⟩
      · have hN : R = (m : Int) := by rw [HR.out, Hb2.out, if_pos (by decide)]; rfl
        have HN := Lib.hid hN; clear hN
        rw [show (((fixP (-1)).toNat : Nat) : Int) = 65533 from rfl] at HC hnx
        rw [show ((1 : Nat) : Int) = 1 from rfl] at HC
        go_wp2_with (go_at_call 38; refine HC.out.mono ?_; rintro e w9 ⟨rfl, hb9⟩)
        go_ret
        exact ⟨by rw [HN.out]; rfl, hBW.trans (hb9.mono hBW.size)⟩
      · obtain ⟨y, rfl⟩ : ∃ y : Nat, p = y := ⟨p.toNat, by omega⟩
        have hfx : fixP (y : Int) = (y : Int) := if_neg (by omega)
        rw [hfx, Int.toNat_natCast] at HC hnx
        have hb3 : badL s = badFrom F (s.drop (m + k)) (m + k) := by rw [Hb2.out, if_neg (by omega)]
        have HB3 := Lib.hid hb3; clear hb3 hfx h0
        by_cases hy : y = 65533
        · subst hy
          have tk : ((k : Int) == 1) = false := by rw [beq_eq_false_iff_ne]; intro e; exact hno ⟨rfl, by omega⟩
          go_wp2_with (go_at_call 38; refine HC.out.mono ?_; rintro e w9 ⟨rfl, hb9⟩)
          have hit9 : w9.heap[w.heap.size]? = some (.stringIter S (m + k)) := (hb9.block _ hlt).trans hitW
          have hip9 : w9.iterPos w.heap.size = m + k := by unfold World.iterPos; rw [hit9]
          exact ⟨⟨m + k, F, by omega, by omega, HB3.out, hit9, hBW.trans (hb9.mono hBW.size)⟩, by rw [Hip.out, hip9]; omega⟩
        · have ty : ((y : Int) == 65533) = false := by rw [beq_eq_false_iff_ne]; omega
          go_wp2_with (go_at_call 38; refine HC.out.mono ?_; rintro e w9 ⟨rfl, hb9⟩)
          have hit9 : w9.heap[w.heap.size]? = some (.stringIter S (m + k)) := (hb9.block _ hlt).trans hitW
          have hip9 : w9.iterPos w.heap.size = m + k := by unfold World.iterPos; rw [hit9]
          exact ⟨⟨m + k, F, by omega, by omega, HB3.out, hit9, hBW.trans (hb9.mono hBW.size)⟩, by rw [Hip.out, hip9]; omega⟩
    · obtain rfl : m = n := by omega
      have hnx := fun ty => Lib.run_next_end_at (P := Tryd.prog) wr w.heap.size S m ty hit (by rw [Hsz.out]; exact hmn)
      have hN : R = -1 := by
        rw [HR.out, Hbd.out, List.drop_of_length_le (by rw [← Hn.out]; exact Nat.le_refl _)]
        cases F <;> rfl
      have HN := Lib.hid hN; clear hN
      go_wp2_with fail
      go_ret
      exact ⟨by rw [HN.out]; rfl, hB⟩
end Go.Proofs.YthilkpjdfjjikaaDoor
end
section
/-
  The program's lexer as a plain function.
-/
namespace Go.Proofs.YthilkpjdfjjikaaDoor
open Go.RowKit

theorem index_room (sub : Bs) : ∀ s : Bs, 0 ≤ Lib.index s sub → (Lib.index s sub).toNat + sub.length ≤ s.length
  | [], h => by
    unfold Lib.index at h ⊢
    cases sub with
    | nil => decide
    | cons a r => simp at h
  | b :: l, h => by
    unfold Lib.index at h ⊢
    by_cases hp : sub.isPrefixOf (b :: l) = true
    · rw [if_pos hp] at h ⊢
      have := (List.isPrefixOf_iff_prefix.1 hp).length_le
      show 0 + _ ≤ _
      omega
    · rw [if_neg hp] at h ⊢
      by_cases hi : (Lib.index l sub == -1) = true
      · rw [if_pos hi] at h; exact absurd h (by decide)
      · rw [if_neg hi] at h ⊢
        have hge := Lib.index_ge l sub
        have hne : Lib.index l sub ≠ -1 := by simpa using hi
        have ih := index_room sub l (by omega)
        rw [List.length_cons]; omega
theorem cut_room (s sep : Bs) : (Lib.cut s sep).1.length + (if (Lib.cut s sep).2.2 = true then sep.length + (Lib.cut s sep).2.1.length else 0) = s.length := by
  unfold Lib.cut
  by_cases h : 0 ≤ Lib.index s sep
  · rw [if_pos h]
    have := index_room sep s h
    simp only [if_true, List.length_take, List.length_drop]
    omega
  · rw [if_neg h]; simp
def sz (m : Mach) : Nat := m.name.length + m.attr.length + m.tail.length
theorem bang_sz (m : Mach) (c : UInt8) : sz (bangM m c) ≤ sz m + 1 ∧ (m.st ≤ 12 → (bangM m c).st ≤ 12) := by
  unfold bangM
  split
  · exact ⟨by unfold sz; dsimp only; omega, fun _ => Nat.zero_le _⟩
  · split
    · rename_i _ h
      rw [Bool.and_eq_true, decide_eq_true_eq] at h
      refine ⟨?_, fun h => h⟩
      have h2 := h.2
      rw [List.length_append, List.length_singleton] at h2
      unfold sz
      dsimp only
      rw [List.length_append, List.length_drop, List.length_append, List.length_singleton]
      show _ + _ + (2 + _) ≤ _
      omega
    · exact ⟨by unfold sz; dsimp only; rw [List.length_append, List.length_singleton]; omega, fun h => h⟩
theorem tag_sz (m : Mach) (c : UInt8) : sz (tagM m c) ≤ sz m + 1 ∧ (m.st ≤ 12 → (tagM m c).st ≤ 12) := by
  refine ⟨?_, fun h => ?_⟩
  · unfold tagM
    repeat' split
    all_goals unfold sz
    all_goals try unfold shutM
    all_goals try dsimp only
    all_goals try (simp only [List.length_append, List.length_singleton, List.length_nil])
    all_goals omega
  · unfold tagM
    repeat' split
    all_goals first
      | exact h
      | (unfold shutM; dsimp only; split <;> decide)
      | (dsimp only; omega)
theorem text_sz (m : Mach) (c : UInt8) : sz (textM m c) ≤ sz m + 1 ∧ (m.st ≤ 12 → (textM m c).st ≤ 12) := by
  unfold textM
  split
  · exact ⟨by unfold sz; dsimp only; omega, fun _ => by show 1 ≤ 12; decide⟩
  · exact ⟨by omega, fun h => h⟩
theorem step_sz (m : Mach) (c : UInt8) : sz (stepM m c) ≤ sz m + 1 ∧ (m.st ≤ 12 → (stepM m c).st ≤ 12) := by
  unfold stepM
  split
  · exact text_sz m c
  · split
    · unfold openM
      split
      · exact ⟨by unfold sz; dsimp only; rw [List.length_singleton]; omega, fun _ => by show 3 ≤ 12; decide⟩
      · split
        · exact ⟨by unfold sz; dsimp only; omega, fun _ => by show 2 ≤ 12; decide⟩
        · split
          · exact ⟨by unfold sz; dsimp only; rw [List.length_nil]; omega, fun _ => by show 11 ≤ 12; decide⟩
          · have := text_sz { m with st := 0 } c
            exact ⟨this.1, fun _ => this.2 (Nat.zero_le _)⟩
    · split
      · unfold closeM
        split
        · exact ⟨by unfold sz; dsimp only; rw [List.length_nil]; omega, fun _ => by show 4 ≤ 12; decide⟩
        · have := bang_sz { m with st := 11, tail := [] } c
          refine ⟨?_, fun _ => this.2 (by show 11 ≤ 12; decide)⟩
          have h1 := this.1
          unfold sz at h1 ⊢
          dsimp only at h1
          rw [List.length_nil] at h1
          omega
      · split
        · split
          · exact ⟨by unfold sz; dsimp only; omega, fun _ => Nat.zero_le _⟩
          · exact ⟨by omega, fun h => h⟩
        · split
          · refine ⟨by unfold sz; dsimp only; omega, fun h => ?_⟩
            dsimp only
            split
            · decide
            · exact h
          · split
            · exact bang_sz m c
            · split
              · unfold rawM
                refine ⟨?_, fun h => ?_⟩
                · unfold sz; dsimp only; rw [List.length_drop, List.length_append, List.length_singleton]; omega
                · dsimp only
                  split
                  · decide
                  · exact h
              · exact tag_sz m c
theorem fold_sz : ∀ (l : Bs) (m : Mach), sz (l.foldl stepM m) ≤ sz m + l.length ∧ (m.st ≤ 12 → (l.foldl stepM m).st ≤ 12)
  | [], m => ⟨by simp, fun h => h⟩
  | c :: l, m => by
    have h1 := step_sz m c
    have h2 := fold_sz l (stepM m c)
    rw [List.foldl_cons, List.length_cons]
    exact ⟨by omega, fun h => h2.2 (h1.2 h)⟩

structure LexR where
  out : List Piece
  pos : Nat
  err : Nat
def lexEnd (n : Nat) (m : Mach) (out : List Piece) : LexR := if m.st = 0 then ⟨out, 0, 0⟩ else ⟨[], n, 171⟩
def litP (k : Nat) (lit : Bs) (out : List Piece) : List Piece := if lit = [] then out else out ++ [⟨0, k, lit, [], [], 0⟩]
def lexFrom (s : Bs) : Nat → Nat → Mach → List Piece → LexR
  | 0, _, m, out => lexEnd s.length m out
  | f + 1, k, m, out =>
    if k < s.length then
      if (Lib.cut (s.drop k) [123, 123]).2.2 = false then lexEnd s.length ((Lib.cut (s.drop k) [123, 123]).1.foldl stepM m) (litP k (Lib.cut (s.drop k) [123, 123]).1 out)
      else
        match tagL (Lib.cut (Lib.cut (s.drop k) [123, 123]).2.1 [125, 125]).1 with
        | none => ⟨[], k + (Lib.cut (s.drop k) [123, 123]).1.length, 170⟩
        | some p =>
          if (Lib.cut (Lib.cut (s.drop k) [123, 123]).2.1 [125, 125]).2.2 = false then ⟨[], k + (Lib.cut (s.drop k) [123, 123]).1.length, 170⟩
          else if (placeL ((Lib.cut (s.drop k) [123, 123]).1.foldl stepM m).st ((Lib.cut (s.drop k) [123, 123]).1.foldl stepM m).attr ((Lib.cut (s.drop k) [123, 123]).1.foldl stepM m).filled).2 = false ∨ (p.kind ≠ 1 ∧ (placeL ((Lib.cut (s.drop k) [123, 123]).1.foldl stepM m).st ((Lib.cut (s.drop k) [123, 123]).1.foldl stepM m).attr ((Lib.cut (s.drop k) [123, 123]).1.foldl stepM m).filled).1 ≠ 0) then ⟨[], k + (Lib.cut (s.drop k) [123, 123]).1.length, 171⟩
          else lexFrom s f (k + (Lib.cut (s.drop k) [123, 123]).1.length + ((Lib.cut (Lib.cut (s.drop k) [123, 123]).2.1 [125, 125]).1.length + 4)) { ((Lib.cut (s.drop k) [123, 123]).1.foldl stepM m) with filled := true }
            (litP k (Lib.cut (s.drop k) [123, 123]).1 out ++ [⟨p.kind, k + (Lib.cut (s.drop k) [123, 123]).1.length, [], p.path, p.name, (placeL ((Lib.cut (s.drop k) [123, 123]).1.foldl stepM m).st ((Lib.cut (s.drop k) [123, 123]).1.foldl stepM m).attr ((Lib.cut (s.drop k) [123, 123]).1.foldl stepM m).filled).1⟩])
    else lexEnd s.length m out
def mach0 : Mach := ⟨0, [], [], 0, false, []⟩
def lexL (s : Bs) : LexR :=
  if 20000 < s.length then ⟨[], 20000, 72⟩ else
  match badL s with
  | some i => ⟨[], i, 20⟩
  | none => lexFrom s (s.length + 1) 0 mach0 []
end Go.Proofs.YthilkpjdfjjikaaDoor
end
