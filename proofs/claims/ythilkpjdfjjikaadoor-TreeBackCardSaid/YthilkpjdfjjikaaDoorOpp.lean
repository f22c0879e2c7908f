/-
  An argument that is a list of parts, opened: it reads as parts of this seat's form.
-/
import Derived.Test.YthilkpjdfjjikaaDoorOpn
set_option linter.unusedVariables false
set_option linter.unusedSimpArgs false
namespace Go.Proofs.YthilkpjdfjjikaaDoor
open Go.RowKit Go.ChangeShapes Go.WideShapes Go.Deep

instance : Inhabited Part := ⟨.mk default [] []⟩
section
variable {H : Type} {enc : TypeId × Value → H} {w : World} {spare : Nat → Bool} {held : Bool}
theorem VRd.parts {P : Nat → Prop} {v : Value} {ks : List Part} (h : VRd w P v ks) : ∃ A c, v = .slice A ks.length c ∧ ks.length ≤ c ∧ (ks = [] ∨ ∃ b o, A = some ⟨b, o, none⟩ ∧ P b ∧ LsRd w P b o ks) := h
set_option maxRecDepth 100000 in
theorem open_partF (n : Nat) (ih : ∀ m, m < n → ∀ (v : Value) (x : DataW H × List MemPlace), DataW.trod enc Tryd.prog w 0 spare held m 37 [v] = some x → ∃ ps, VRd w (InW w) v ps)
    (cs : List Value) (x : DataW H × List MemPlace) (h : DataW.trod enc Tryd.prog w 0 spare held n 74 cs = some x) (b off : Nat) (hc : ∀ k, k < 8 → w.cell? ⟨b, off + k, none⟩ = cs[k]?) :
    ∃ q, PtRd w (InW w) b off q := by
  obtain ⟨ys, n', hn, hx, hl, hyl, hf⟩ := DataW.trod_struct Tryd.underlying74 h
  rw [show Tryd.prog.cellsOf 74 = 8 by kernel_rfl] at hl
  match cs, hl with
  | [c0, c1, c2, c3, c4, c5, c6, c7], _ =>
    match ys, hyl with
    | [y0, y1, y2], _ =>
      have f0 := hf 0 _ rfl
      have f1 := hf 1 _ rfl
      have f2 := hf 2 _ rfl
      have f0 : DataW.trod enc Tryd.prog w 0 spare held n' 35 ([c0, c1, c2, c3, c4, c5, c6, c7].take (Tryd.prog.cellsOf 35)) = some y0 := f0
      have f1 : DataW.trod enc Tryd.prog w 0 spare held n' 37 ([c6, c7].take (Tryd.prog.cellsOf 37)) = some y1 := f1
      have f2 : DataW.trod enc Tryd.prog w 0 spare held n' 37 ([c7].take (Tryd.prog.cellsOf 37)) = some y2 := f2
      rw [show Tryd.prog.cellsOf 35 = 6 by kernel_rfl] at f0
      rw [show Tryd.prog.cellsOf 37 = 1 by kernel_rfl] at f1 f2
      have f0 : DataW.trod enc Tryd.prog w 0 spare held n' 35 [c0, c1, c2, c3, c4, c5] = some y0 := f0
      have f1 : DataW.trod enc Tryd.prog w 0 spare held n' 37 [c6] = some y1 := f1
      have f2 : DataW.trod enc Tryd.prog w 0 spare held n' 37 [c7] = some y2 := f2
      obtain ⟨p, v, e, hp, _⟩ := open_piece f0
      obtain ⟨ks, hks⟩ := ih n' (by omega) _ _ f1
      obtain ⟨os, hos⟩ := ih n' (by omega) _ _ f2
      obtain ⟨Ak, ck, rfl, k1, k2⟩ := hks
      obtain ⟨Ao, co, rfl, o1, o2⟩ := hos
      refine ⟨.mk p ks os, ?_⟩
      unfold PtRd
      refine ⟨v, Ak, ck, Ao, co, fun k hk => ?_, hp, k1, o1, k2, o2⟩
      rw [hc k hk]
      injection e with e0 e
      injection e with e1 e
      injection e with e2 e
      injection e with e3 e
      injection e with e4 e
      injection e with e5 e
      subst e0 e1 e2 e3 e4 e5
      rfl
set_option maxRecDepth 100000 in
theorem open_partsF : ∀ (n : Nat) (v : Value) (x : DataW H × List MemPlace), DataW.trod enc Tryd.prog w 0 spare held n 37 [v] = some x → ∃ ps, VRd w (InW w) v ps := by
  intro n
  induction n using Nat.strongRecOn with
  | _ n ih =>
    intro v x h
    rcases DataW.trod_slice Tryd.underlying37 h with h0 | ⟨a, len, cap, elems, rest, m, hm1, h0, hx, hb, hl, hm, hlen, hel, _, _⟩
    · have h0 := h0.1
      obtain rfl : v = .slice none 0 0 := by simpa using h0
      exact ⟨[], VRd.nil⟩
    · obtain rfl : v = .slice (some a) len cap := by simpa using h0
      rw [show Tryd.prog.cellsOf 74 = 8 by kernel_rfl] at hel
      by_cases hz : len = 0
      · subst hz
        exact ⟨[], some a, cap, rfl, Nat.zero_le _, .inl rfl⟩
      · have hcs : ∀ i, i < len → ∃ cs' y, w.cells? 0 (a.add (i * 8)) 8 = some cs' ∧ DataW.trod enc Tryd.prog w 0 spare held m 74 cs' = some y := by
          intro i hi
          have := hel i hi
          rw [List.getElem?_eq_getElem (by omega)] at this
          obtain ⟨cs', h1, h2⟩ := Option.bind_eq_some_iff.1 this
          exact ⟨cs', _, h1, h2⟩
        have hsp : a.spot = none ∧ a.block < w.heap.size := by
          obtain ⟨cs', y, h1, h2⟩ := hcs 0 (by omega)
          obtain ⟨_, hlc, hat⟩ := World.cells?_some h1
          have h00 := hat 0 (by decide)
          have hz0 : (a.add (0 * 8)).add 0 = a := by
            show (a.add 0).add 0 = a
            rfl
          rw [hz0, List.getElem?_eq_getElem (by omega)] at h00
          exact cell_spot h00
        obtain ⟨b, o, s⟩ := a
        obtain ⟨hs0, hbl⟩ := hsp
        dsimp only at hs0 hbl
        subst hs0
        have hs : ∀ i, i < len → ∃ q, PtRd w (InW w) b (o + i * 8) q := by
          intro i hi
          obtain ⟨cs', y, h1, h2⟩ := hcs i hi
          refine open_partF m (fun k hk => ih k (by omega)) cs' y h2 b (o + i * 8) fun k hk => ?_
          rw [← (World.cells?_some h1).2.2 k hk, add_add, add_at, Nat.add_assoc]
        obtain ⟨f, hf⟩ := choose_lt (α := Part) (p := fun i q => PtRd w (InW w) b (o + i * 8) q) hs
        refine ⟨(List.range len).map f, some ⟨b, o, none⟩, cap, by rw [List.length_map, List.length_range], by rw [List.length_map, List.length_range]; exact hl, .inr ⟨b, o, rfl, hbl, ?_⟩⟩
        refine LsRd.of_at _ _ _ fun i q hi => ?_
        rw [List.getElem?_map] at hi
        by_cases hil : i < len
        · rw [List.getElem?_range hil] at hi
          injection hi with hi
          subst hi
          exact hf i hil
        · rw [List.getElem?_eq_none (by rw [List.length_range]; omega)] at hi; cases hi
theorem open_parts {v : Value} {d : DataW H} {pl : List MemPlace} (h : DataW.Trod enc Tryd.prog w 0 spare held 37 v d pl) (hone : v.cells = #[v]) : ∃ ps, VRd w (InW w) v ps := by
  obtain ⟨fuel, hf⟩ := h
  rw [hone] at hf
  exact open_partsF fuel v _ hf
end
end Go.Proofs.YthilkpjdfjjikaaDoor
