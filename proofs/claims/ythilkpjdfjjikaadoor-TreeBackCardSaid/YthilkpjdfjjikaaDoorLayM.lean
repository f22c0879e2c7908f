/-
  Texts of this seat, joined: Lay, Rfi, Rsp. Each says what it proves, ahead of itself.
-/
import Derived.Lib.SplitLaws
import Derived.Test.YthilkpjdfjjikaaDoorPthM
import Derived.Test.YthilkpjdfjjikaaDoorBadM
import Derived.Test.YthilkpjdfjjikaaDoorRsb
import Derived.Test.YthilkpjdfjjikaaDoorRna
set_option linter.unusedVariables false
set_option linter.unusedSimpArgs false
section
/-
  The pieces of a template, put together, are the template (plain).
-/
namespace Go.Proofs.YthilkpjdfjjikaaDoor
open Go.RowKit

/-- Pieces that lie one behind the other from a place on; 'pl': a literal stands ahead of them. -/
def Lays (s : Bs) : Nat → Bool → List Piece → Prop
  | k, _, [] => k = s.length
  | k, pl, p :: ps => p.pos = k ∧
    ((p.kind = 0 ∧ p.text ≠ [] ∧ (s.drop k).take p.text.length = p.text ∧ k + p.text.length ≤ s.length ∧ pl = false ∧ Lays s (k + p.text.length) true ps) ∨
     (p.kind ≠ 0 ∧ ∃ m, k + 5 ≤ s.length ∧ (s.drop k).take 2 = [123, 123] ∧ k + m + 4 ≤ s.length ∧ (s.drop (k + 2 + m)).take 2 = [125, 125] ∧ (∀ j, j < m → (s.drop (k + 2 + j)).take 2 ≠ [125, 125]) ∧ Lays s (k + (m + 4)) false ps))

theorem index_first2 (a b : UInt8) : ∀ (l : Bs) (i : Nat), Lib.index l [a, b] = (i : Int) → (l.drop i).take 2 = [a, b] ∧ i + 2 ≤ l.length ∧ ∀ j, j < i → (l.drop j).take 2 ≠ [a, b]
  | [], i, h => by simp [Lib.index] at h
  | x :: l, i, h => by
    unfold Lib.index at h
    by_cases hp : [a, b].isPrefixOf (x :: l) = true
    · rw [if_pos hp] at h
      obtain rfl : i = 0 := by omega
      obtain ⟨t, ht⟩ := List.isPrefixOf_iff_prefix.1 hp
      refine ⟨by rw [← ht]; rfl, by rw [← ht]; simp, fun j hj => by omega⟩
    · rw [if_neg hp] at h
      by_cases hi : (Lib.index l [a, b] == -1) = true
      · rw [if_pos hi] at h; omega
      · rw [if_neg hi] at h
        have hge := Lib.index_ge l [a, b]
        have hne : Lib.index l [a, b] ≠ -1 := by simpa using hi
        obtain ⟨i', rfl⟩ : ∃ i', i = i' + 1 := ⟨i - 1, by omega⟩
        have ih := index_first2 a b l i' (by omega)
        refine ⟨by rw [List.drop_succ_cons]; exact ih.1, by rw [List.length_cons]; omega, fun j hj => ?_⟩
        cases j with
        | zero =>
          intro e
          apply hp
          rw [List.isPrefixOf_iff_prefix]
          exact ⟨(x :: l).drop 2, by rw [← e]; exact List.take_append_drop 2 _⟩
        | succ j => rw [List.drop_succ_cons]; exact ih.2.2 j (by omega)
theorem cut2 (a b : UInt8) (l lit rest : Bs) (more : Bool) (h : Lib.cut l [a, b] = (lit, rest, more)) :
    (more = false ∧ lit = l) ∨ (more = true ∧ lit = l.take lit.length ∧ rest = l.drop (lit.length + 2) ∧ (l.drop lit.length).take 2 = [a, b] ∧ lit.length + 2 ≤ l.length ∧ ∀ j, j < lit.length → (l.drop j).take 2 ≠ [a, b]) := by
  unfold Lib.cut at h
  by_cases hi : 0 ≤ Lib.index l [a, b]
  · rw [if_pos hi] at h
    injection h with h1 h
    injection h with h2 h3
    obtain ⟨i, hi'⟩ : ∃ i : Nat, Lib.index l [a, b] = (i : Int) := ⟨(Lib.index l [a, b]).toNat, by omega⟩
    have hf := index_first2 a b l i hi'
    rw [hi', Int.toNat_natCast] at h1
    rw [hi', Int.toNat_natCast] at h2
    have hl : lit.length = i := by rw [← h1, List.length_take]; omega
    refine .inr ⟨h3.symm, by rw [hl]; exact h1.symm, ?_, by rw [hl]; exact hf.1, by rw [hl]; exact hf.2.1, by rw [hl]; exact hf.2.2⟩
    rw [hl, ← h2]; rfl
  · rw [if_neg hi] at h
    injection h with h1 h
    injection h with h2 h3
    exact .inl ⟨h3.symm, h1.symm⟩
theorem tagL_nil : tagL [] = none := by kernel_rfl
theorem tag_kind (w : Bs) (p : Piece) (h : tagL w = some p) : p.kind ≠ 0 := by
  unfold tagL at h
  split at h
  · split at h
    · injection h with h; rw [← h]; decide
    · split at h
      · injection h with h; rw [← h]; decide
      · obtain ⟨l, _, rfl⟩ := Option.map_eq_some_iff.1 h; exact Nat.one_ne_zero
  · split at h
    · obtain ⟨l, _, rfl⟩ := Option.map_eq_some_iff.1 h; exact Nat.succ_ne_zero 1
    · split at h
      · obtain ⟨l, _, rfl⟩ := Option.map_eq_some_iff.1 h; exact Nat.succ_ne_zero 3
      · cases h
  · split at h
    · obtain ⟨l, _, rfl⟩ := Option.map_eq_some_iff.1 h; exact Nat.succ_ne_zero 2
    · cases h
  · cases h
theorem badFrom_le : ∀ (f : Nat) (l : Bs) (i j : Nat), badFrom f l i = some j → j ≤ i + l.length
  | 0, _, _, _, h => by cases h
  | _ + 1, [], _, _, h => by cases h
  | f + 1, x :: r, i, j, h => by
    rw [badFrom] at h
    split at h
    · injection h with h; omega
    · have ih := badFrom_le f _ _ j h
      rw [List.length_drop] at ih
      by_cases hk : (readL (x :: r)).2 ≤ (x :: r).length
      · omega
      · rw [List.drop_eq_nil_of_le (by omega)] at h
        cases f <;> cases h
theorem lexEnd_ok (n : Nat) (m : Mach) (out : List Piece) (h : (lexEnd n m out).err = 0) : (lexEnd n m out).out = out := by
  unfold lexEnd at h ⊢
  by_cases h0 : m.st = 0
  · rw [if_pos h0]
  · rw [if_neg h0] at h; exact absurd h (show (171 : Nat) ≠ 0 by decide)
theorem lexEnd_no (n : Nat) (m : Mach) (out : List Piece) (h : (lexEnd n m out).err ≠ 0) : (lexEnd n m out).out = [] ∧ (lexEnd n m out).pos ≤ n := by
  unfold lexEnd at h ⊢
  by_cases h0 : m.st = 0
  · rw [if_pos h0] at h; exact absurd rfl h
  · rw [if_neg h0]; exact ⟨rfl, Nat.le_refl _⟩
theorem lays_lit (s : Bs) (k : Nat) (lit : Bs) (ps : List Piece) (h : lit = (s.drop k).take lit.length) (hk : k + lit.length ≤ s.length) (hl : Lays s (k + lit.length) (!lit.isEmpty) ps) : Lays s k false ((if lit = [] then [] else [⟨0, k, lit, [], [], 0⟩]) ++ ps) := by
  by_cases he : lit = []
  · subst he
    simpa using hl
  · rw [if_neg he]
    refine ⟨rfl, .inl ⟨rfl, he, h.symm, hk, rfl, ?_⟩⟩
    cases lit with
    | nil => exact absurd rfl he
    | cons a l => exact hl
theorem litP_eq (k : Nat) (lit : Bs) (out : List Piece) : litP k lit out = out ++ (if lit = [] then [] else [⟨0, k, lit, [], [], 0⟩]) := by
  unfold litP
  split <;> simp
theorem lexFrom_lays (s : Bs) : ∀ (F k : Nat) (m : Mach) (out : List Piece), s.length - k < F → k ≤ s.length →
    ((lexFrom s F k m out).err = 0 → ∃ ps, (lexFrom s F k m out).out = out ++ ps ∧ Lays s k false ps) ∧ ((lexFrom s F k m out).err ≠ 0 → (lexFrom s F k m out).out = [] ∧ (lexFrom s F k m out).pos ≤ s.length)
  | 0, k, m, out, h, _ => by omega
  | F + 1, k, m, out, h, hk => by
    by_cases hkn : k < s.length
    · obtain ⟨lit, rest, more, hcut⟩ : ∃ lit rest more, Lib.cut (s.drop k) [123, 123] = (lit, rest, more) := ⟨_, _, _, rfl⟩
      obtain ⟨words, rest2, whole, hcut2⟩ : ∃ words rest2 whole, Lib.cut rest [125, 125] = (words, rest2, whole) := ⟨_, _, _, rfl⟩
      have hst : lexFrom s (F + 1) k m out = if more = false then lexEnd s.length (lit.foldl stepM m) (litP k lit out) else
        match tagL words with
        | none => ⟨[], k + lit.length, 170⟩
        | some p => if whole = false then ⟨[], k + lit.length, 170⟩
          else if (placeL (lit.foldl stepM m).st (lit.foldl stepM m).attr (lit.foldl stepM m).filled).2 = false ∨ (p.kind ≠ 1 ∧ (placeL (lit.foldl stepM m).st (lit.foldl stepM m).attr (lit.foldl stepM m).filled).1 ≠ 0) then ⟨[], k + lit.length, 171⟩
          else lexFrom s F (k + lit.length + (words.length + 4)) { (lit.foldl stepM m) with filled := true } (litP k lit out ++ [⟨p.kind, k + lit.length, [], p.path, p.name, (placeL (lit.foldl stepM m).st (lit.foldl stepM m).attr (lit.foldl stepM m).filled).1⟩]) := by
        rw [lexFrom, if_pos hkn, hcut]
        dsimp only
        rw [hcut2]
        rfl
      rw [hst]
      have hdl : (s.drop k).length = s.length - k := List.length_drop
      rcases cut2 _ _ _ _ _ _ hcut with ⟨rfl, hlit⟩ | ⟨rfl, hlit, hrest, h2, hroom, _⟩
      · rw [if_pos rfl]
        refine ⟨fun h0 => ?_, fun h0 => lexEnd_no _ _ _ h0⟩
        refine ⟨if lit = [] then [] else [⟨0, k, lit, [], [], 0⟩], ?_, ?_⟩
        · rw [lexEnd_ok _ _ _ h0, litP_eq]
        · have := lays_lit s k lit [] (by rw [hlit, List.take_length]) (by rw [hlit, hdl]; omega) (by show k + lit.length = s.length; rw [hlit, hdl]; omega)
          rwa [List.append_nil] at this
      · rw [if_neg (by decide)]
        have hkl : k + lit.length ≤ s.length := by omega
        cases ht : tagL words with
        | none => exact ⟨fun h0 => absurd h0 (show (170 : Nat) ≠ 0 by decide), fun _ => ⟨rfl, hkl⟩⟩
        | some p =>
          dsimp only
          cases whole with
          | false =>
            rw [if_pos rfl]
            exact ⟨fun h0 => absurd h0 (show (170 : Nat) ≠ 0 by decide), fun _ => ⟨rfl, hkl⟩⟩
          | true =>
            rw [if_neg (by decide)]
            by_cases hb : (placeL (lit.foldl stepM m).st (lit.foldl stepM m).attr (lit.foldl stepM m).filled).2 = false ∨ (p.kind ≠ 1 ∧ (placeL (lit.foldl stepM m).st (lit.foldl stepM m).attr (lit.foldl stepM m).filled).1 ≠ 0)
            · rw [if_pos hb]
              exact ⟨fun h0 => absurd h0 (show (171 : Nat) ≠ 0 by decide), fun _ => ⟨rfl, hkl⟩⟩
            · rw [if_neg hb]
              rcases cut2 _ _ _ _ _ _ hcut2 with ⟨hf, _⟩ | ⟨_, hw, _, h2', hroom2, hno⟩
              · cases hf
              · have hrl : rest.length = s.length - k - (lit.length + 2) := by rw [hrest, List.length_drop, hdl]
                have ih := lexFrom_lays s F (k + lit.length + (words.length + 4)) { (lit.foldl stepM m) with filled := true } (litP k lit out ++ [⟨p.kind, k + lit.length, [], p.path, p.name, (placeL (lit.foldl stepM m).st (lit.foldl stepM m).attr (lit.foldl stepM m).filled).1⟩]) (by omega) (by omega)
                refine ⟨fun h0 => ?_, ih.2⟩
                obtain ⟨ps, ho, hL⟩ := ih.1 h0
                refine ⟨(if lit = [] then [] else [⟨0, k, lit, [], [], 0⟩]) ++ (⟨p.kind, k + lit.length, [], p.path, p.name, (placeL (lit.foldl stepM m).st (lit.foldl stepM m).attr (lit.foldl stepM m).filled).1⟩ :: ps), ?_, ?_⟩
                · rw [ho, litP_eq]; simp
                · refine lays_lit s k lit _ hlit hkl ?_
                  have hwne : words ≠ [] := by
                    rintro rfl
                    rw [tagL_nil] at ht; cases ht
                  have hwl : 0 < words.length := List.length_pos_iff.2 hwne
                  refine ⟨rfl, .inr ⟨tag_kind words p ht, words.length, by omega, ?_, by omega, ?_, ?_, hL⟩⟩
                  · rw [← List.drop_drop]; exact h2
                  · rw [hrest, List.drop_drop, List.drop_drop] at h2'
                    rw [← h2']; congr 2; omega
                  · intro j hj
                    have := hno j hj
                    rw [hrest, List.drop_drop, List.drop_drop] at this
                    intro e
                    apply this
                    rw [← e]; congr 2; omega
    · rw [lexFrom, if_neg hkn]
      refine ⟨fun h0 => ⟨[], by rw [lexEnd_ok _ _ _ h0, List.append_nil], by show k = s.length; omega⟩, fun h0 => lexEnd_no _ _ _ h0⟩
theorem lexL_lays (s : Bs) (h : (lexL s).err = 0) : Lays s 0 false (lexL s).out := by
  unfold lexL at h ⊢
  split at h
  · exact absurd h (show (72 : Nat) ≠ 0 by decide)
  · rename_i hn
    rw [if_neg hn]
    cases hb : badL s with
    | some i => rw [hb] at h; exact absurd h (show (20 : Nat) ≠ 0 by decide)
    | none =>
      rw [hb] at h
      obtain ⟨ps, ho, hL⟩ := (lexFrom_lays s (s.length + 1) 0 mach0 [] (by omega) (by omega)).1 h
      show Lays s 0 false (lexFrom s (s.length + 1) 0 mach0 []).out
      rw [ho]; exact hL
theorem lexL_no (s : Bs) (h : (lexL s).err ≠ 0) : (lexL s).out = [] ∧ (lexL s).pos ≤ max s.length 20000 := by
  unfold lexL at h ⊢
  split at h
  · rename_i hn
    rw [if_pos hn]
    exact ⟨rfl, by show 20000 ≤ _; omega⟩
  · rename_i hn
    rw [if_neg hn]
    cases hb : badL s with
    | some i =>
      have := badFrom_le _ _ _ _ hb
      exact ⟨rfl, by show i ≤ _; omega⟩
    | none =>
      rw [hb] at h
      have := (lexFrom_lays s (s.length + 1) 0 mach0 [] (by omega) (by omega)).2 h
      exact ⟨this.1, by have := this.2; show (lexFrom s (s.length + 1) 0 mach0 []).pos ≤ _; omega⟩
end Go.Proofs.YthilkpjdfjjikaaDoor
end
section
/-
  The document's search for two bytes; its place of an insert.
-/
namespace Go.Proofs.YthilkpjdfjjikaaDoor
open Go.RowKit

theorem index_found (a b : UInt8) : ∀ (l : Bs) (i : Nat), (l.drop i).take 2 = [a, b] → 0 ≤ Lib.index l [a, b]
  | [], i, h => by simp at h
  | x :: l, i, h => by
    unfold Lib.index
    by_cases hp : [a, b].isPrefixOf (x :: l) = true
    · rw [if_pos hp]; exact Int.le_refl _
    · rw [if_neg hp]
      cases i with
      | zero =>
        exfalso
        apply hp
        rw [List.isPrefixOf_iff_prefix]
        rw [List.drop_zero] at h
        exact ⟨(x :: l).drop 2, by rw [← h]; exact List.take_append_drop 2 _⟩
      | succ i =>
        have ih := index_found a b l i (by simpa using h)
        rw [if_neg (by simp; omega)]
        omega
theorem cut_first (a b : UInt8) (l : Bs) (i : Nat) (h : (l.drop i).take 2 = [a, b]) (hno : ∀ j, j < i → (l.drop j).take 2 ≠ [a, b]) : (Lib.cut l [a, b]).1.length = i := by
  have hf := index_found a b l i h
  have hm : (Lib.cut l [a, b]).2.2 = true := by unfold Lib.cut; rw [if_pos hf]
  rcases cut2 a b l _ _ _ (show Lib.cut l [a, b] = ((Lib.cut l [a, b]).1, (Lib.cut l [a, b]).2.1, (Lib.cut l [a, b]).2.2) from rfl) with ⟨h1, _⟩ | ⟨_, _, _, h2, _, h3⟩
  · rw [hm] at h1; cases h1
  · by_cases hlt : (Lib.cut l [a, b]).1.length < i
    · exact absurd h2 (hno _ hlt)
    · by_cases hgt : i < (Lib.cut l [a, b]).1.length
      · exact absurd h (h3 _ hgt)
      · omega
theorem cut_never (a b : UInt8) (l : Bs) (hno : ∀ j, j + 2 ≤ l.length → (l.drop j).take 2 ≠ [a, b]) : Lib.cut l [a, b] = (l, [], false) := by
  have hge := Lib.index_ge l [a, b]
  by_cases h : 0 ≤ Lib.index l [a, b]
  · obtain ⟨i, hi⟩ : ∃ i : Nat, Lib.index l [a, b] = (i : Int) := ⟨(Lib.index l [a, b]).toNat, by omega⟩
    have := index_first2 a b l i hi
    exact absurd this.1 (hno i this.2.1)
  · unfold Lib.cut
    rw [if_neg h]
set_option maxHeartbeats 1000000 in
set_option maxRecDepth 100000 in
theorem find_any (s : Bs) (k : Nat) (a b : UInt8) (w : World) (hk : k ≤ s.length) (hl : s.length ≤ 1000000) :
    Calls Tryd.prog 32 #[.string (bs s), .int .i64 (k : Int), .string (bs [a, b])] w fun e w' => e = .returned (.int .i64 ((k + (Lib.cut (s.drop k) [a, b]).1.length : Nat) : Int)) ∧ w' = w := by
  have hz : (bs s).size = s.length := bs_size s
  have hz2 : (bs [a, b]).size = 2 := rfl
  have HX := Lib.hid (fun i t h => str_cut s i (i + t) (by omega) h)
  obtain ⟨R, hR⟩ : ∃ R, R = k + (Lib.cut (s.drop k) [a, b]).1.length := ⟨_, rfl⟩
  rw [← hR]
  have HR := Lib.hid hR; clear hR
  obtain ⟨S, hS⟩ : ∃ S, S = bs s := ⟨_, rfl⟩
  obtain ⟨T, hT⟩ : ∃ T, T = bs [a, b] := ⟨_, rfl⟩
  rw [← hS] at hz HX ⊢
  rw [← hT] at hz2 ⊢
  have HT := Lib.hid hT
  clear hS hT
  obtain ⟨n, hn⟩ : ∃ n, n = s.length := ⟨_, rfl⟩
  rw [← hn] at hz hl hk HX
  have Hn := Lib.hid hn; clear hn
  go_enter Tryd.func32, Tryd.ntmps32
  go_wp2_with fail
  go_loopw [7] (fun i wr => ∃ j : Nat, i = .int .i64 (j : Int) ∧ k ≤ j ∧ j ≤ n ∧ (∀ x, k ≤ x → x < j → (s.drop x).take 2 ≠ [a, b]) ∧ wr = w) (fun i _ => n - (intOf i).toNat)
  case atStart => exact ⟨k, rfl, Nat.le_refl _, hk, fun x h1 h2 => absurd h2 (by omega), rfl⟩
  case round =>
    obtain ⟨j, rfl, hkj, hj, hno, rfl⟩ := hrel
    have HN := Lib.hid hno; clear hno
    by_cases hjn : j + 2 ≤ n
    · have tj : decide ((j : Int) + 2 ≤ (n : Int)) = true := by rw [decide_eq_true_eq]; omega
      have hx : ∀ W, (Instr.slice 9 (.string S) (some (.int .i64 (j : Int))) (some (.int .i64 ((j : Int) + 2))) none).run Tryd.prog W = .ok (.string (bs ((s.take (j + 2)).drop j))) W := HX.out j 2 hjn
      rw [show (s.take (j + 2)).drop j = (s.drop j).take 2 from by rw [List.drop_take]; congr 1; omega] at hx
      by_cases hc : (s.drop j).take 2 = [a, b]
      · have hr : R = j := by
          rw [HR.out]
          have := cut_first a b (s.drop k) (j - k) (by rw [List.drop_drop, show k + (j - k) = j from by omega]; exact hc) (fun x hx => by rw [List.drop_drop]; exact HN.out (k + x) (by omega) (by omega))
          omega
        rw [hc, ← HT.out] at hx
        have te : (T.toList == T.toList) = true := beq_self_eq_true _
        have HRf := Lib.hid hr
        clear hr hc
        go_wp2_with fail
        go_ret
        exact ⟨by rw [HRf.out]; rfl, rfl⟩
      · obtain ⟨X, hX⟩ : ∃ X, X = bs ((s.drop j).take 2) := ⟨_, rfl⟩
        have te : (X.toList == T.toList) = false := by
          rw [beq_eq_false_iff_ne, hX, HT.out, bs_toList, bs_toList]; exact hc
        rw [← hX] at hx
        have HC := Lib.hid hc
        clear hX hc
        go_wp2_with fail
        refine ⟨⟨j + 1, by go_num, by omega, by omega, ?_, by first | exact rfl | exact trivial⟩, by simp [intOf]; omega⟩
        intro x h1 h2
        by_cases h : x < j
        · exact HN.out x h1 h
        · obtain rfl : x = j := by omega
          exact HC.out
    · have tj : decide ((j : Int) + 2 ≤ (n : Int)) = false := by rw [decide_eq_false_iff_not]; omega
      have hr : R = n := by
        rw [HR.out, cut_never a b (s.drop k) (fun x hx => by
          rw [List.length_drop, ← Hn.out] at hx
          rw [List.drop_drop]; exact HN.out (k + x) (by omega) (by omega))]
        show k + (s.drop k).length = n
        rw [List.length_drop, ← Hn.out]; omega
      have HRf := Lib.hid hr
      clear hr
      go_wp2_with fail
      go_ret
      exact ⟨by rw [HRf.out]; rfl, rfl⟩
end Go.Proofs.YthilkpjdfjjikaaDoor
end
section
/-
  The document's split at a byte, and its path.
-/
namespace Go.Proofs.YthilkpjdfjjikaaDoor
open Go.RowKit

def preL (p : Bs) : List Bs → List Bs
  | [] => [p]
  | h :: t => (p ++ h) :: t
def splitL (c : UInt8) : Bs → List Bs
  | [] => [[]]
  | x :: r => if x = c then [] :: splitL c r else preL [x] (splitL c r)
theorem splitL_ne (c : UInt8) : ∀ l : Bs, splitL c l ≠ []
  | [] => by simp [splitL]
  | x :: r => by
    unfold splitL
    split
    · simp
    · cases h : splitL c r with
      | nil => exact absurd h (splitL_ne c r)
      | cons a t => simp [preL]
theorem preL_nil {l : List Bs} (h : l ≠ []) : preL [] l = l := by
  cases l with
  | nil => exact absurd rfl h
  | cons a t => rfl
theorem preL_pre (p q : Bs) (l : List Bs) : preL p (preL q l) = preL (p ++ q) l := by
  cases l with
  | nil => rfl
  | cons a t => simp [preL]
theorem splitK_eq (c : UInt8) : ∀ l : Bs, Lib.splitK [c] 0 (Lib.count l [c]) l = splitL c l
  | [] => by
    rw [show Lib.count [] [c] = 0 from by rw [Lib.count_one]; rfl]
    rfl
  | x :: r => by
    have ih := splitK_eq c r
    by_cases hx : x = c
    · subst hx
      rw [Lib.count_cons_eq, Nat.add_comm, Lib.splitK]
      have hix : Lib.index (x :: r) [x] = 0 := by rw [Lib.index]; simp [List.isPrefixOf]
      rw [hix, if_neg (by decide)]
      rw [show splitL x (x :: r) = [] :: splitL x r from by rw [splitL, if_pos rfl], ← ih]
      rfl
    · rw [Lib.count_cons_ne x c r hx]
      have hs : splitL c (x :: r) = preL [x] (splitL c r) := by rw [splitL, if_neg hx]
      rw [hs, ← ih]
      have hp : ([c] : Bs).isPrefixOf (x :: r) = false := by simp [List.isPrefixOf, Ne.symm hx]
      have hix : Lib.index (x :: r) [c] = if Lib.index r [c] == -1 then -1 else Lib.index r [c] + 1 := by rw [Lib.index, hp]; simp
      cases hk : Lib.count r [c] with
      | zero => rfl
      | succ k =>
        have hne : ¬ Lib.index r [c] = -1 := by
          intro e
          rw [Lib.count_miss e] at hk; cases hk
        have hge := Lib.index_ge r [c]
        rw [Lib.splitK, Lib.splitK, hix, if_neg (show ¬ (Lib.index r [c] == -1) = true from by simpa using hne), if_neg (show ¬ (Lib.index r [c] + 1 == -1) = true from by simp; omega), if_neg (show ¬ (Lib.index r [c] == -1) = true from by simpa using hne)]
        rw [show (Lib.index r [c] + 1).toNat = (Lib.index r [c]).toNat + 1 from by omega]
        rfl
theorem splitDot_eq (s : Bs) : splitDot s = splitL 46 s := by
  unfold splitDot
  rw [Lib.splitB_data]
  exact splitK_eq 46 s
theorem strs_snoc (l : List Bs) (x : Bs) : strs (l ++ [x]) = strs l ++ [.string (bs x)] := by simp [strs]
theorem take_drop_snoc (s : Bs) (a i : Nat) (ha : a ≤ i) (hi : i < s.length) : (s.take (i + 1)).drop a = (s.take i).drop a ++ [s.getD i 0] := by
  rw [List.take_succ_eq_append_getElem hi, List.drop_append_of_le_length (by rw [List.length_take]; omega), List.getD_eq_getElem?_getD, List.getElem?_eq_getElem hi]
  rfl
set_option maxHeartbeats 4000000 in
set_option maxRecDepth 100000 in
theorem splitR_any (s : Bs) (c : UInt8) (w : World) (hl : s.length ≤ 1000000) :
    Calls Tryd.prog 74 #[.string (bs s), u8v c] w fun e w' => ∃ v, e = .returned v ∧ w'.ownsRow w.heap.size 9 1 v (splitL c s).length (strs (splitL c s)) ∧ (splitL c s).length ≤ s.length + 1 ∧ Below w.heap.size w w' := by
  have hz : (bs s).size = s.length := bs_size s
  have HX := Lib.hid (fun i h w => str_byte s i h w)
  have HU := Lib.hid (fun a b h h' w => str_cut s a b h h' w)
  obtain ⟨R, hR⟩ : ∃ R, R = splitL c s := ⟨_, rfl⟩
  rw [← hR]
  have HR := Lib.hid hR; clear hR
  obtain ⟨S, hS⟩ : ∃ S, S = bs s := ⟨_, rfl⟩
  rw [← hS] at hz HX HU ⊢
  clear hS
  obtain ⟨n, hn⟩ : ∃ n, n = s.length := ⟨_, rfl⟩
  rw [← hn] at hz hl HX HU ⊢
  have Hn := Lib.hid hn; clear hn
  unfold u8v
  go_enter Tryd.func74, Tryd.ntmps74
  go_wp2_with fail
  go_loopw [5, 6, 7] (fun v at_ i wr => ∃ (a j : Nat) (out : List Bs), at_ = .int .i64 (a : Int) ∧ i = .int .i64 (j : Int) ∧ out.length ≤ j ∧ a ≤ j ∧ wr.ownsRow w.heap.size 9 1 v out.length (strs out) ∧ Below w.heap.size w wr ∧
      ((j ≤ n ∧ R = out ++ preL ((s.take j).drop a) (splitL c (s.drop j))) ∨ (j = n + 1 ∧ R = out)))
    (fun _ _ i _ => n + 1 - (intOf i).toNat)
  case atStart =>
    refine ⟨0, 0, [], rfl, rfl, Nat.le_refl _, Nat.le_refl _, World.ownsRow_nil _ _ _ _, Below.refl _ _, .inl ⟨Nat.zero_le _, ?_⟩⟩
    rw [HR.out]
    exact (preL_nil (splitL_ne c s)).symm
  case round =>
    obtain ⟨a, j, out, rfl, rfl, hol, haj, hown, hB, hcase⟩ := hrel
    obtain ⟨A0, c0, rfl, hc0, _⟩ := own_form hown
    have HO := Lib.hid hown; have HB := Lib.hid hB
    have hsw := hB.size
    clear hown hB
    rcases hcase with ⟨hjn, hRe⟩ | ⟨rfl, hRe⟩
    · have tj : decide ((j : Int) ≤ (n : Int)) = true := by rw [decide_eq_true_eq]; omega
      have HRE := Lib.hid hRe; clear hRe
      have hcut := fun W => HU.out a j haj hjn W
      by_cases hje : j = n
      · have te : ((j : Int) == (n : Int)) = true := by rw [hje]; exact beq_self_eq_true _
        have hRf : R = out ++ [(s.take j).drop a] := by
          rw [HRE.out, show s.drop j = [] from List.drop_of_length_le (by rw [hje, Hn.out]; exact Nat.le_refl _)]
          show out ++ [(s.take j).drop a ++ []] = _
          rw [List.append_nil]
        have HRF := Lib.hid hRf
        have HJ := Lib.hid hje
        generalize hXg : bs ((s.take j).drop a) = X at hcut
        have HXg := Lib.hid hXg
        have hol2 : out.length ≤ 1000000 := by omega
        clear hRf hje hXg
        go_wp2_with (at_builtin; refine wpList_pushG rfl (.tmp 25) (.tmp 30) 32 rfl w.heap.size 9 (.string ⟨#[]⟩) 1 16 Tryd.underlying32 (by kernel_rfl) rfl (by decide) (.slice A0 out.length c0) out.length _ rfl HO.out #[.string X] 1 (by decide) rfl rfl (by simp [Value.oneCell']) (by omega) (by omega) hsw ?_; intro g4 cap4 w4 hown4 hg4 hb4 hgr4; have HO4 := Lib.hid hown4; have HB4 := Lib.hid hb4; clear hown4 hb4 hgr4)
        refine ⟨⟨j + 1, j + 1, out ++ [(s.take j).drop a], by go_num, by go_num, by rw [List.length_append, List.length_singleton]; omega, Nat.le_refl _, ?_, HB.out.trans HB4.out, .inr ⟨by rw [HJ.out], HRF.out⟩⟩, by simp [intOf]; omega⟩
        rw [List.length_append, List.length_singleton, strs_snoc, HXg.out]
        exact HO4.out
      · have te : ((j : Int) == (n : Int)) = false := by rw [beq_eq_false_iff_ne]; omega
        have hjn' : j < n := by omega
        have hx := fun W => HX.out j hjn' W
        have hdr := drop_getD s j (by rw [← Hn.out]; exact hjn')
        have htd := take_drop_snoc s a j haj (by rw [← Hn.out]; exact hjn')
        have hdd : (s.take (j + 1)).drop (j + 1) = [] := List.drop_of_length_le (by rw [List.length_take]; omega)
        by_cases hc : s.getD j 0 = c
        · have tc : ((((s.getD j 0).toNat : Nat) : Int) == ((c.toNat : Nat) : Int)) = true := by rw [hc]; exact beq_self_eq_true _
          have hRf : R = (out ++ [(s.take j).drop a]) ++ preL ((s.take (j + 1)).drop (j + 1)) (splitL c (s.drop (j + 1))) := by
            rw [HRE.out, hdr, hdd, preL_nil (splitL_ne c _), splitL, if_pos hc]
            show out ++ (((s.take j).drop a ++ []) :: splitL c (s.drop (j + 1))) = _
            rw [List.append_nil]; simp
          have HRF := Lib.hid hRf
          generalize (s.getD j 0).toNat = y at hx tc
          generalize hXg : bs ((s.take j).drop a) = X at hcut
          have HXg := Lib.hid hXg
          have hol2 : out.length ≤ 1000000 := by omega
          clear hRf hXg hdr htd hdd hc
          go_wp2_with (at_builtin; refine wpList_pushG rfl (.tmp 25) (.tmp 30) 32 rfl w.heap.size 9 (.string ⟨#[]⟩) 1 16 Tryd.underlying32 (by kernel_rfl) rfl (by decide) (.slice A0 out.length c0) out.length _ rfl HO.out #[.string X] 1 (by decide) rfl rfl (by simp [Value.oneCell']) (by omega) (by omega) hsw ?_; intro g4 cap4 w4 hown4 hg4 hb4 hgr4; have HO4 := Lib.hid hown4; have HB4 := Lib.hid hb4; clear hown4 hb4 hgr4)
          refine ⟨⟨j + 1, j + 1, out ++ [(s.take j).drop a], by go_num, by go_num, by rw [List.length_append, List.length_singleton]; omega, Nat.le_refl _, ?_, HB.out.trans HB4.out, .inl ⟨by omega, HRF.out⟩⟩, by simp [intOf]; omega⟩
          rw [List.length_append, List.length_singleton, strs_snoc, HXg.out]
          exact HO4.out
        · have tc : ((((s.getD j 0).toNat : Nat) : Int) == ((c.toNat : Nat) : Int)) = false := by
            rw [beq_eq_false_iff_ne]; intro e; exact hc (by apply UInt8.toNat_inj.1; omega)
          have hRf : R = out ++ preL ((s.take (j + 1)).drop a) (splitL c (s.drop (j + 1))) := by
            rw [HRE.out, hdr, htd, splitL, if_neg hc, preL_pre]
          have HRF := Lib.hid hRf
          generalize (s.getD j 0).toNat = y at hx tc
          clear hRf hdr htd hdd hc hcut
          go_wp2_with fail
          exact ⟨⟨a, j + 1, out, rfl, by go_num, by omega, by omega, HO.out, HB.out, .inl ⟨by omega, HRF.out⟩⟩, by simp [intOf]; omega⟩
    · have tj : decide (((n + 1 : Nat) : Int) ≤ (n : Int)) = false := by rw [decide_eq_false_iff_not]; omega
      subst hRe
      go_wp2_with fail
      go_ret
      exact ⟨_, rfl, HO.out, hol, HB.out⟩
end Go.Proofs.YthilkpjdfjjikaaDoor
end
