/-
  lex.path.
-/
import Derived.Test.YthilkpjdfjjikaaDoorPth
namespace Go.Proofs.YthilkpjdfjjikaaDoor
open Go.RowKit

theorem own_alloc (w : World) (xs : List Value) (e : TypeId) (n : Nat) (hn : n = xs.length) (hm : n ≤ 100000000) : (w.alloc (.cells xs.toArray e)).ownsRow w.heap.size e 1 (.slice (some ⟨w.heap.size, 0, none⟩) n n) n xs := by
  subst hn
  refine ⟨by simp, .inr ⟨w.heap.size, xs.length, _, rfl, Nat.le_refl _, heap_alloc_new w _, Nat.le_refl _, by unfold maxLen; omega, by simp, List.take_of_length_le (by simp)⟩⟩
theorem countB_bound (s : Bs) : Lib.countB (bs s) ⟨#[46]⟩ ≤ s.length := by
  have := Lib.countB_le ⟨#[46]⟩ (by decide) s.length (bs s) (by rw [bs_size]; exact Nat.le_refl _)
  rw [bs_size] at this
  exact this
/-- What a call leaves of a path: nil, or a row of its own. -/
def PathV (w : World) (B : Nat) (v : Value) : Option (List Bs) → Prop
  | none => v = .slice none 0 0
  | some l => (∃ b, v = .slice (some ⟨b, 0, none⟩) l.length l.length) ∧ w.ownsRow B 9 1 v l.length (strs l)
set_option maxHeartbeats 2000000 in
theorem path_any (s : Bs) (w : World) (hT : Tabs w) (hl : s.length ≤ 1000000) :
    Calls Tryd.prog 49 #[.string (bs s)] w fun e w' => ∃ v, e = .returned v ∧ PathV w' w.heap.size v (pathL s) ∧ Below w.heap.size w w' := by
  obtain ⟨mx, hmx⟩ := hT.2.2
  have hsp := Tryd.strings_Split (bs s) ⟨#[46]⟩ mx w (by rw [bs_size]; omega) hmx (by decide)
  have hcb := countB_bound s
  rw [splitDot_cells, ← splitDot_len s] at hsp
  have hln : (splitDot s).length ≤ 1000001 := by rw [splitDot_len]; omega
  have hown := own_alloc w (strs (splitDot s)) 9 (splitDot s).length (by simp [strs]) (by omega)
  have hb : Below w.heap.size w (w.alloc (.cells (strs (splitDot s)).toArray 9)) := (Below.refl _ w).alloc (Nat.le_refl _) _
  have HSP := Lib.hid hsp; clear hsp
  have hcf := fun (h5 : (splitDot s).length ≤ 5) => containsf_any (splitDot s) (some ⟨w.heap.size, 0, none⟩) (splitDot s).length (w.heap.size + 1) (w.alloc (.cells (strs (splitDot s)).toArray 9)) (by have := Rd.of_own hown; rwa [show (w.alloc (.cells (strs (splitDot s)).toArray 9)).heap.size = w.heap.size + 1 by simp] at this) (by simp) (hT.below hb) (fun x hx => by have := splitDot_le s x hx; omega) (by omega)
  have hp : pathL s = if 5 < (splitDot s).length ∨ (splitDot s).any (fun x => !nameB x) = true then none else some (splitDot s) := rfl
  obtain ⟨PL, hPL⟩ : ∃ PL, PL = pathL s := ⟨_, rfl⟩
  rw [← hPL] at hp ⊢
  obtain ⟨W, hW⟩ : ∃ W, W = w.alloc (.cells (strs (splitDot s)).toArray 9) := ⟨_, rfl⟩
  rw [← hW] at HSP hown hb hcf
  obtain ⟨L, hL⟩ : ∃ L, L = splitDot s := ⟨_, rfl⟩
  rw [← hL] at HSP hown hcf hp hln
  have HO := Lib.hid hown
  clear hPL hW hL hown hcb hmx
  obtain ⟨n, hne⟩ : ∃ n, n = L.length := ⟨_, rfl⟩
  rw [← hne] at HSP hcf hp hln
  have Hn := Lib.hid hne; clear hne
  by_cases h5 : 5 < n
  · have t5 : decide ((n : Int) > 5) = true := by rw [decide_eq_true_eq]; omega
    rw [if_pos (.inl h5)] at hp
    subst hp
    clear hcf
    go_enter Tryd.func49, Tryd.ntmps49
    go_wp2_with fail
    refine HSP.out.mono ?_
    rintro e w1 ⟨rfl, rfl⟩
    go_wp2_with fail
    go_ret
    exact ⟨_, rfl, rfl, hb⟩
  · have t5 : decide ((n : Int) > 5) = false := by rw [decide_eq_false_iff_not]; omega
    have HCF := Lib.hid (hcf (by omega))
    clear hcf
    have hsz := hb.size
    cases ha : L.any (fun x => !nameB x) with
    | true =>
      rw [ha] at HCF
      rw [if_pos (.inr ha)] at hp
      subst hp
      clear ha
      go_enter Tryd.func49, Tryd.ntmps49
      go_wp2_with fail
      refine HSP.out.mono ?_
      rintro e w1 ⟨rfl, rfl⟩
      go_wp2_with (go_at_call 70; refine HCF.out.mono ?_; rintro e w2 ⟨rfl, hb2⟩)
      go_ret
      exact ⟨_, rfl, rfl, hb.trans (hb2.mono hsz)⟩
    | false =>
      rw [ha] at HCF
      rw [if_neg (by rw [ha]; intro e; rcases e with e | e; · exact h5 e
                     · cases e)] at hp
      subst hp
      clear ha
      go_enter Tryd.func49, Tryd.ntmps49
      go_wp2_with fail
      refine HSP.out.mono ?_
      rintro e w1 ⟨rfl, rfl⟩
      go_wp2_with (go_at_call 70; refine HCF.out.mono ?_; rintro e w2 ⟨rfl, hb2⟩)
      go_ret
      refine ⟨_, rfl, ⟨⟨w.heap.size, by rw [← Hn.out]; rfl⟩, ?_⟩, hb.trans (hb2.mono hsz)⟩
      have ho := own_below HO.out hb2 (fun k hk => (HO.out.lt k hk).2)
      rw [← Hn.out] at ho ⊢
      exact ho
end Go.Proofs.YthilkpjdfjjikaaDoor
