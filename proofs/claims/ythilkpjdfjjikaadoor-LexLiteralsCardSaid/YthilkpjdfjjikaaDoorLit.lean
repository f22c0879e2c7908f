/-
  law17.LexLiterals, walked.
-/
import Derived.Test.YthilkpjdfjjikaaDoorRlx
import Derived.Test.YthilkpjdfjjikaaDoorSam
namespace Go.Proofs.YthilkpjdfjjikaaDoor
open Go.RowKit

theorem tag_path (w : Bs) (p : Piece) (h : tagL w = some p) : p.path.length ≤ 5 := by
  have hp : ∀ (b : Bs) (l : List Bs), pathL b = some l → l.length ≤ 5 := by
    intro b l h
    unfold pathL at h
    split at h
    · cases h
    · rename_i hn
      injection h with h
      rw [← h]
      by_cases h5 : 5 < (splitDot b).length
      · exact absurd (.inl h5) hn
      · omega
  unfold tagL at h
  split at h
  · split at h
    · injection h with h; rw [← h]; decide
    · split at h
      · injection h with h; rw [← h]; decide
      · obtain ⟨l, hl, rfl⟩ := Option.map_eq_some_iff.1 h; exact hp _ l hl
  · split at h
    · obtain ⟨l, hl, rfl⟩ := Option.map_eq_some_iff.1 h; exact hp _ l hl
    · split at h
      · obtain ⟨l, hl, rfl⟩ := Option.map_eq_some_iff.1 h; exact hp _ l hl
      · cases h
  · split at h
    · obtain ⟨l, hl, rfl⟩ := Option.map_eq_some_iff.1 h; exact hp _ l hl
    · cases h
  · cases h
def Small (n : Nat) (r : LexR) : Prop := r.out.length ≤ n ∧ (∀ p ∈ r.out, p.path.length ≤ 5) ∧ r.pos ≤ n ∧ r.err ≤ 1000
theorem end_small (n : Nat) (m : Mach) (out : List Piece) (h : out.length ≤ n) (hp : ∀ p ∈ out, p.path.length ≤ 5) : Small n (lexEnd n m out) := by
  unfold lexEnd
  split
  · exact ⟨h, hp, Nat.zero_le _, by show 0 ≤ 1000; decide⟩
  · exact ⟨Nat.zero_le _, fun p hp => (by cases hp), Nat.le_refl _, by show 171 ≤ 1000; decide⟩
theorem litP_small (k : Nat) (lit : Bs) (out : List Piece) (h : out.length ≤ k) (hp : ∀ p ∈ out, p.path.length ≤ 5) : (litP k lit out).length ≤ k + lit.length ∧ ∀ p ∈ litP k lit out, p.path.length ≤ 5 := by
  unfold litP
  split
  · exact ⟨by omega, hp⟩
  · rename_i hne
    have : 0 < lit.length := List.length_pos_iff.2 hne
    refine ⟨by rw [List.length_append, List.length_singleton]; omega, fun p h' => ?_⟩
    rcases List.mem_append.1 h' with h' | h'
    · exact hp p h'
    · rw [List.mem_singleton.1 h']; exact Nat.zero_le _
theorem lexFrom_small (s : Bs) : ∀ (F k : Nat) (m : Mach) (out : List Piece), out.length ≤ k → (∀ p ∈ out, p.path.length ≤ 5) → k ≤ s.length → Small s.length (lexFrom s F k m out)
  | 0, k, m, out, h, hp, hk => end_small _ _ _ (by omega) hp
  | F + 1, k, m, out, h, hp, hk => by
    by_cases hkn : k < s.length
    · obtain ⟨lit, rest, more, hcut⟩ : ∃ lit rest more, Lib.cut (s.drop k) [123, 123] = (lit, rest, more) := ⟨_, _, _, rfl⟩
      obtain ⟨words, rest2, whole, hcut2⟩ : ∃ words rest2 whole, Lib.cut rest [125, 125] = (words, rest2, whole) := ⟨_, _, _, rfl⟩
      have hcr := cut_room (s.drop k) [123, 123]
      have hcr2 := cut_room rest [125, 125]
      rw [hcut, List.length_drop] at hcr
      rw [hcut2] at hcr2
      dsimp only at hcr hcr2
      rw [lexFrom_step s F k m out hkn lit rest more hcut words rest2 whole hcut2]
      obtain ⟨hl1, hl2⟩ := litP_small k lit out h hp
      by_cases hm : more = false
      · rw [if_pos hm]
        exact end_small _ _ _ (by omega) hl2
      · rw [if_neg hm]
        have hm : more = true := by simpa using hm
        rw [hm, if_pos rfl, show ([123, 123] : Bs).length = 2 from rfl] at hcr
        have hno : ∀ q, q ≤ 1000 → Small s.length ⟨[], k + lit.length, q⟩ := fun q hq => ⟨Nat.zero_le _, fun p hp => (by cases hp), by show k + lit.length ≤ _; omega, hq⟩
        cases ht : tagL words with
        | none => exact hno 170 (by decide)
        | some p =>
          dsimp only
          by_cases hw : whole = false
          · rw [if_pos hw]; exact hno 170 (by decide)
          · rw [if_neg hw]
            have hw : whole = true := by simpa using hw
            rw [hw, if_pos rfl, show ([125, 125] : Bs).length = 2 from rfl] at hcr2
            split
            · exact hno 171 (by decide)
            · refine lexFrom_small s F _ _ _ (by rw [List.length_append, List.length_singleton]; omega) ?_ (by omega)
              intro q hq
              rcases List.mem_append.1 hq with hq | hq
              · exact hl2 q hq
              · rw [List.mem_singleton.1 hq]; exact tag_path words p ht
    · rw [lexFrom, if_neg hkn]
      exact end_small _ _ _ (by omega) hp
theorem lexL_small (s : Bs) (hs : s.length ≤ 20000) : Small 20000 (lexL s) := by
  unfold lexL
  rw [if_neg (by omega)]
  cases hb : badL s with
  | some i =>
    have := badFrom_le _ _ _ _ hb
    exact ⟨Nat.zero_le _, fun p hp => (by cases hp), by show i ≤ _; omega, by show 20 ≤ 1000; decide⟩
  | none =>
    obtain ⟨h1, h2, h3, h4⟩ := lexFrom_small s (s.length + 1) 0 mach0 [] (Nat.zero_le _) (fun p hp => (by cases hp)) (Nat.zero_le _)
    exact ⟨by show (lexFrom s (s.length + 1) 0 mach0 []).out.length ≤ _; omega, h2, by show (lexFrom s (s.length + 1) 0 mach0 []).pos ≤ _; omega, h4⟩
/-- Two lists of the same pieces are the same. -/
theorem same_any (v v' : Value) (B B' : Nat) (ps : List Piece) (w : World) (h : PRow w B v ps) (h' : PRow w B' v' ps) (hn : ps.length ≤ 1000000) (hpth : ∀ p ∈ ps, p.path.length ≤ 1000000) :
    Calls Tryd.prog 14 #[v, v'] w fun e w' => e = .returned (.bool true) ∧ Below w.heap.size w w' := by
  obtain ⟨A, c, qs, rfl, hc, e, hr⟩ := h.read
  obtain ⟨A', c', qs', rfl, hc', e', hr'⟩ := h'.read
  exact sameR_any ps qs qs' A A' c c' w.heap.size w hr hr' e e' (Nat.le_refl _) hn hc hc' hpth
def tagX : Bs := [123, 123, 120, 125, 125]
set_option maxHeartbeats 4000000 in
set_option maxRecDepth 100000 in
theorem lit_any (s c : Bs) (w : World) (hT : Tabs w) (hs : s.length ≤ maxLen) (hc : c.length ≤ maxLen) :
    Calls Tryd.prog 3 #[.string (bs s), .string (bs c)] w fun e w' => e = .returned (.bool true) ∧ Below w.heap.size w w' := by
  unfold maxLen at hs hc
  have hz : (bs s).size = s.length := bs_size s
  have hz2 : (bs c).size = c.length := bs_size c
  have HF := Lib.hid (first_any w hT)
  by_cases h1 : 1000 < max s.length c.length
  · obtain ⟨S, hS⟩ : ∃ S, S = bs s := ⟨_, rfl⟩
    obtain ⟨C, hC⟩ : ∃ C, C = bs c := ⟨_, rfl⟩
    rw [← hS] at hz ⊢
    rw [← hC] at hz2 ⊢
    clear hS hC
    generalize s.length = n at *
    generalize c.length = m at *
    have t1 : decide (1000 < max (n : Int) (m : Int)) = true := by rw [decide_eq_true_eq]; omega
    go_enter Tryd.func3, Tryd.ntmps3
    go_wp2_with (go_at_call 11; refine HF.out.mono ?_; rintro e w1 ⟨rfl, b1⟩)
    go_ret
    exact ⟨rfl, b1⟩
  · obtain ⟨sm1, sm2, sm3, sm4⟩ := lexL_small (s ++ tagX ++ c) (by rw [List.length_append, List.length_append, show tagX.length = 5 from rfl]; omega)
    have h12 := fun W hW => lex_any (s ++ tagX ++ c) W hW
    have h13 := fun W => lexR_any (s ++ tagX ++ c) W (by rw [List.length_append, List.length_append, show tagX.length = 5 from rfl]; omega)
    have hcat : bs (s ++ tagX ++ c) = bs s ++ ⟨#[123, 123, 120, 125, 125]⟩ ++ bs c := by
      rw [← bs_cat, ← bs_cat]; rfl
    rw [hcat] at h12 h13
    obtain ⟨R, hR⟩ : ∃ R, R = lexL (s ++ tagX ++ c) := ⟨_, rfl⟩
    rw [← hR] at sm1 sm2 sm3 sm4
    simp only [← hR] at h12 h13
    have HS2 := Lib.hid sm2
    clear hR hcat sm2
    obtain ⟨S, hS⟩ : ∃ S, S = bs s := ⟨_, rfl⟩
    obtain ⟨C, hC⟩ : ∃ C, C = bs c := ⟨_, rfl⟩
    rw [← hS] at hz h12 h13 ⊢
    rw [← hC] at hz2 h12 h13 ⊢
    clear hS hC
    generalize s.length = n at *
    generalize c.length = m at *
    obtain ⟨out, pos, err⟩ := R
    dsimp only at sm1 sm3 sm4 HS2 h12 h13
    have H12 := Lib.hid h12; have H13 := Lib.hid h13; have HT := Lib.hid hT
    clear h12 h13 hT
    have t1 : decide (1000 < max (n : Int) (m : Int)) = false := by rw [decide_eq_false_iff_not]; omega
    go_enter Tryd.func3, Tryd.ntmps3
    go_wp2_with (go_at_call 11; refine HF.out.mono ?_; rintro e w1 ⟨rfl, b1⟩)
    refine (H12.out _ (HT.out.below b1)).mono ?_
    rintro e w2 ⟨v, rfl, hp, b2⟩
    have HP := Lib.hid hp
    clear hp
    go_wp2_with (go_at_call 13; refine (H13.out _).mono ?_; rintro e w3 ⟨v', rfl, hp', b3⟩)
    have H14 := Lib.hid (same_any v v' w1.heap.size w2.heap.size out w3 (HP.out.below b3) hp' (by omega) (fun p hp => by have := HS2.out p hp; omega))
    have hs1 := b1.size
    have hs2 := b2.size
    have hs3 := b3.size
    have bb : Below w.heap.size w w3 := (b1.trans (b2.mono hs1)).trans (b3.mono (by omega))
    go_wp2_with (go_at_call 14; refine H14.out.mono ?_; rintro e w4 ⟨rfl, b4⟩)
    go_ret
    exact ⟨rfl, bb.trans (b4.mono (by omega))⟩
end Go.Proofs.YthilkpjdfjjikaaDoor
