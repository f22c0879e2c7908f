/-
  Texts of this seat, joined: Pth, Pt2, Pla. Each says what it proves, ahead of itself.
-/
import Derived.Lib.SplitLaws
import Derived.Test.YthilkpjdfjjikaaDoorNamM
set_option linter.unusedVariables false
set_option linter.unusedSimpArgs false
section
/-
  Paths of a tag.
-/
namespace Go.Proofs.YthilkpjdfjjikaaDoor
open Go.RowKit

def strs (l : List Bs) : List Value := l.map fun s => Value.string (bs s)
theorem strs_one (l : List Bs) : ∀ u ∈ strs l, u.oneCell' = true := by
  intro u hu; simp only [strs, List.mem_map] at hu; obtain ⟨x, _, rfl⟩ := hu; rfl
theorem strs_at (l : List Bs) (k : Nat) (h : k < l.length) : (strs l)[k]? = some (.string (bs (l.getD k []))) := by simp [strs, h]
theorem take_snocB (l : List Bs) (k : Nat) (h : k < l.length) : l.take (k + 1) = l.take k ++ [l.getD k []] := by
  rw [List.take_succ_eq_append_getElem h]; simp [h]
theorem notname_any (s : Bs) (w : World) (hT : Tabs w) (hl : s.length ≤ 1000000) : Calls Tryd.prog 71 #[.string (bs s)] w fun e w' => e = .returned (.bool (!nameB s)) ∧ Below w.heap.size w w' := by
  have H48 := Lib.hid (name_any s w hT hl)
  go_enter Tryd.func71, Tryd.ntmps71
  go_wp2_with fail
  refine H48.out.mono ?_
  rintro e w' ⟨rfl, hb⟩
  go_wp2_with fail
  go_ret
  exact ⟨rfl, hb⟩
set_option maxHeartbeats 2000000 in
theorem index_any (zs : List Bs) (A : Option Addr) (c B : Nat) (w : World) (hr : Rd w B 1 A zs.length (strs zs)) (hB0 : B ≤ w.heap.size) (hT : Tabs w) (hl : ∀ s ∈ zs, s.length ≤ 1000000) (hn : zs.length ≤ 1000000) :
    Calls Tryd.prog 82 #[.slice A zs.length c, .func (.func 71) #[] #[]] w fun e w' => ∃ i : Int, e = .returned (.int .i64 i) ∧ decide (i ≥ 0) = zs.any (fun s => !nameB s) ∧ Below w.heap.size w w' := by
  have eg : ∀ args w, (callFunc 71 args).run Tryd.prog w = .ok (.enter 71 args) w := enters_of Tryd.func71 (by kernel_rfl) rfl
  have H71 := Lib.hid (fun (s : Bs) (hs : s ∈ zs) (W : World) (hb : Below w.heap.size w W) => notname_any s W (hT.below hb) (hl s hs))
  obtain ⟨n, hne⟩ : ∃ n, n = zs.length := ⟨_, rfl⟩
  rw [← hne] at hr hn ⊢
  have Hr := Lib.hid hr; have Hn := Lib.hid hne
  clear hr hne hT hl
  go_enter Tryd.func82, Tryd.ntmps82
  go_wp2_with fail
  go_loopw [8] (fun i wr => ∃ k : Nat, k ≤ n ∧ i = .int .i64 k ∧ (zs.take k).any (fun s => !nameB s) = false ∧ Below w.heap.size w wr)
    (fun i _ => n - (intOf i).toNat)
  case atStart => exact ⟨0, by omega, rfl, rfl, Below.refl _ _⟩
  case round =>
    obtain ⟨k, hk, rfl, hall, hB⟩ := hrel
    have Hall := Lib.hid hall; clear hall
    by_cases hk8 : k < n
    · obtain ⟨b, off, rfl, hb, hcell⟩ := Hr.out.at_ (by omega)
      have hkl : k < zs.length := by rw [← Hn.out]; exact hk8
      have hck : wr.cell? ⟨b, off + k, none⟩ = some (.string (bs (zs.getD k []))) := by
        rw [hB.cell (p := ⟨b, off + k, none⟩) (by show b < _; omega), hcell k (by omega)]; exact strs_at zs k hkl
      have Hsn := Lib.hid (take_snocB zs k hkl)
      have hmem : zs.getD k [] ∈ zs := by simp [hkl]
      have HC := Lib.hid (H71.out _ hmem wr hB)
      have hmem2 := Lib.hid hmem
      clear hcell hkl hmem
      obtain ⟨s, hs⟩ : ∃ s, s = zs.getD k [] := ⟨_, rfl⟩
      rw [← hs] at hck Hsn HC hmem2
      clear hs
      cases hN : nameB s with
      | true =>
        rw [hN] at HC
        have e1 : (zs.take (k + 1)).any (fun s => !nameB s) = false := by
          rw [Hsn.out, List.any_append, Hall.out]; simp [hN]
        have E1 := Lib.hid e1; clear e1 hN
        go_wp2_with (go_at_fn 71; refine HC.out.mono ?_; rintro e w9 ⟨rfl, hb9⟩)
        exact ⟨⟨k + 1, by omega, by go_num, E1.out, hB.trans (hb9.mono hB.size)⟩, by simp [intOf]; omega⟩
      | false =>
        rw [hN] at HC
        have e1 : zs.any (fun s => !nameB s) = true := by
          rw [List.any_eq_true]; exact ⟨s, hmem2.out, by rw [hN]; rfl⟩
        have E1 := Lib.hid e1; clear e1 hN
        go_wp2_with (go_at_fn 71; refine HC.out.mono ?_; rintro e w9 ⟨rfl, hb9⟩)
        go_ret
        exact ⟨k, rfl, by rw [E1.out, decide_eq_true_eq]; omega, hB.trans (hb9.mono hB.size)⟩
    · obtain rfl : k = n := by omega
      have e1 : zs.any (fun s => !nameB s) = false := by
        have := Hall.out
        rwa [List.take_of_length_le (by rw [← Hn.out]; exact Nat.le_refl _)] at this
      have E1 := Lib.hid e1; clear e1
      go_wp2_with fail
      go_ret
      exact ⟨-1, rfl, by rw [E1.out]; rfl, hB⟩
theorem containsf_any (zs : List Bs) (A : Option Addr) (c B : Nat) (w : World) (hr : Rd w B 1 A zs.length (strs zs)) (hB0 : B ≤ w.heap.size) (hT : Tabs w) (hl : ∀ s ∈ zs, s.length ≤ 1000000) (hn : zs.length ≤ 1000000) :
    Calls Tryd.prog 70 #[.slice A zs.length c, .func (.func 71) #[] #[]] w fun e w' => e = .returned (.bool (zs.any (fun s => !nameB s))) ∧ Below w.heap.size w w' := by
  have H82 := Lib.hid (index_any zs A c B w hr hB0 hT hl hn)
  obtain ⟨n, hne⟩ : ∃ n, n = zs.length := ⟨_, rfl⟩
  rw [← hne] at H82 ⊢
  clear hr hne hT hl
  go_enter Tryd.func70, Tryd.ntmps70
  go_wp2_with fail
  refine H82.out.mono ?_
  rintro e w' ⟨i, rfl, hi, hb⟩
  have HI := Lib.hid hi; clear hi
  go_wp2_with fail
  go_ret
  exact ⟨by rw [← HI.out]; rfl, hb⟩
/-- What strings.Split gives at a full stop. -/
def splitDot (s : Bs) : List Bs := (Lib.splitB ⟨#[46]⟩ 0 (Lib.countB (bs s) ⟨#[46]⟩) (bs s)).map (·.data.toList)
def pathL (s : Bs) : Option (List Bs) := if 5 < (splitDot s).length ∨ (splitDot s).any (fun x => !nameB x) = true then none else some (splitDot s)
theorem splitB_le (sep : ByteArray) : ∀ (k : Nat) (s : ByteArray), ∀ x ∈ Lib.splitB sep 0 k s, x.size ≤ s.size
  | 0, s, x, hx => by rw [Lib.splitB_zero, List.mem_singleton] at hx; rw [hx]; exact Nat.le_refl _
  | k + 1, s, x, hx => by
    unfold Lib.splitB at hx
    split at hx
    · rw [List.mem_singleton] at hx; rw [hx]; exact Nat.le_refl _
    · rcases List.mem_cons.1 hx with rfl | h
      · rw [ByteArray.size_extract]; omega
      · have := splitB_le sep k _ x h
        rw [ByteArray.size_extract] at this
        omega
theorem splitDot_le (s : Bs) : ∀ x ∈ splitDot s, x.length ≤ s.length := by
  intro x hx
  obtain ⟨y, hy, rfl⟩ := List.mem_map.1 hx
  have := splitB_le _ _ _ y hy
  rw [bs_size] at this
  exact this
theorem splitDot_len (s : Bs) : (splitDot s).length = Lib.countB (bs s) ⟨#[46]⟩ + 1 := by
  unfold splitDot
  rw [List.length_map]
  exact (Lib.splitB_all ⟨#[46]⟩ (by decide) 0 _ (bs s) rfl)
theorem splitDot_cells (s : Bs) : (Lib.splitB ⟨#[46]⟩ 0 (Lib.countB (bs s) ⟨#[46]⟩) (bs s)).map Value.string = strs (splitDot s) := by
  unfold strs splitDot
  rw [List.map_map]
  rfl
end Go.Proofs.YthilkpjdfjjikaaDoor
end
section
/-
  lex.path.
-/
namespace Go.Proofs.YthilkpjdfjjikaaDoor
open Go.RowKit

theorem own_alloc (w : World) (xs : List Value) (e : TypeId) (n : Nat) (hn : n = xs.length) (hm : n ≤ 100000000) : (w.alloc (.cells xs.toArray e)).ownsRow w.heap.size e 1 (.slice (some ⟨w.heap.size, 0, none⟩) n n) n xs := by
  subst hn
  refine ⟨by simp, .inr ⟨w.heap.size, xs.length, _, rfl, Nat.le_refl _, heap_alloc_new w _, Nat.le_refl _, by unfold maxLen; omega, by simp, List.take_of_length_le (by simp)⟩⟩
theorem countB_bound (s : Bs) : Lib.countB (bs s) ⟨#[46]⟩ ≤ s.length := by
  have := Lib.countB_le ⟨#[46]⟩ (by decide) s.length (bs s) (by rw [bs_size]; exact Nat.le_refl _)
  rw [bs_size] at this
  exact this
/-- What a call leaves of a path: nil, or a row of its own. -/
def PathV (w : World) (B : Nat) (v : Value) : Option (List Bs) → Prop
  | none => v = .slice none 0 0
  | some l => (∃ b, v = .slice (some ⟨b, 0, none⟩) l.length l.length) ∧ w.ownsRow B 9 1 v l.length (strs l)
set_option maxHeartbeats 2000000 in
theorem path_any (s : Bs) (w : World) (hT : Tabs w) (hl : s.length ≤ 1000000) :
    Calls Tryd.prog 49 #[.string (bs s)] w fun e w' => ∃ v, e = .returned v ∧ PathV w' w.heap.size v (pathL s) ∧ Below w.heap.size w w' := by
  obtain ⟨mx, hmx⟩ := hT.2.2
  have hsp := Tryd.strings_Split (bs s) ⟨#[46]⟩ mx w (by rw [bs_size]; omega) hmx (by decide)
  have hcb := countB_bound s
  rw [splitDot_cells, ← splitDot_len s] at hsp
  have hln : (splitDot s).length ≤ 1000001 := by rw [splitDot_len]; omega
  have hown := own_alloc w (strs (splitDot s)) 9 (splitDot s).length (by simp [strs]) (by omega)
  have hb : Below w.heap.size w (w.alloc (.cells (strs (splitDot s)).toArray 9)) := (Below.refl _ w).alloc (Nat.le_refl _) _
  have HSP := Lib.hid hsp; clear hsp
  have hcf := fun (h5 : (splitDot s).length ≤ 5) => containsf_any (splitDot s) (some ⟨w.heap.size, 0, none⟩) (splitDot s).length (w.heap.size + 1) (w.alloc (.cells (strs (splitDot s)).toArray 9)) (by have := Rd.of_own hown; rwa [show (w.alloc (.cells (strs (splitDot s)).toArray 9)).heap.size = w.heap.size + 1 by simp] at this) (by simp) (hT.below hb) (fun x hx => by have := splitDot_le s x hx; omega) (by omega)
  have hp : pathL s = if 5 < (splitDot s).length ∨ (splitDot s).any (fun x => !nameB x) = true then none else some (splitDot s) := rfl
  obtain ⟨PL, hPL⟩ : ∃ PL, PL = pathL s := ⟨_, rfl⟩
  rw [← hPL] at hp ⊢
  obtain ⟨W, hW⟩ : ∃ W, W = w.alloc (.cells (strs (splitDot s)).toArray 9) := ⟨_, rfl⟩
  rw [← hW] at HSP hown hb hcf
  obtain ⟨L, hL⟩ : ∃ L, L = splitDot s := ⟨_, rfl⟩
  rw [← hL] at HSP hown hcf hp hln
  have HO := Lib.hid hown
  clear hPL hW hL hown hcb hmx
  obtain ⟨n, hne⟩ : ∃ n, n = L.length := ⟨_, rfl⟩
  rw [← hne] at HSP hcf hp hln
  have Hn := Lib.hid hne; clear hne
  by_cases h5 : 5 < n
  · have t5 : decide ((n : Int) > 5) = true := by rw [decide_eq_true_eq]; omega
    rw [if_pos (.inl h5)] at hp
    subst hp
    clear hcf
    go_enter Tryd.func49, Tryd.ntmps49
    go_wp2_with fail
    refine HSP.out.mono ?_
    rintro e w1 ⟨rfl, rfl⟩
    go_wp2_with fail
    go_ret
    exact ⟨_, rfl, rfl, hb⟩
  · have t5 : decide ((n : Int) > 5) = false := by rw [decide_eq_false_iff_not]; omega
    have HCF := Lib.hid (hcf (by omega))
    clear hcf
    have hsz := hb.size
    cases ha : L.any (fun x => !nameB x) with
    | true =>
      rw [ha] at HCF
      rw [if_pos (.inr ha)] at hp
      subst hp
      clear ha
      go_enter Tryd.func49, Tryd.ntmps49
      go_wp2_with fail
      refine HSP.out.mono ?_
      rintro e w1 ⟨rfl, rfl⟩
      go_wp2_with (go_at_call 70; refine HCF.out.mono ?_; rintro e w2 ⟨rfl, hb2⟩)
      go_ret
      exact ⟨_, rfl, rfl, hb.trans (hb2.mono hsz)⟩
    | false =>
      rw [ha] at HCF
      rw [if_neg (by rw [ha]; intro e; rcases e with e | e; · exact h5 e
                     · cases e)] at hp
      subst hp
      clear ha
      go_enter Tryd.func49, Tryd.ntmps49
      go_wp2_with fail
      refine HSP.out.mono ?_
      rintro e w1 ⟨rfl, rfl⟩
      go_wp2_with (go_at_call 70; refine HCF.out.mono ?_; rintro e w2 ⟨rfl, hb2⟩)
      go_ret
      refine ⟨_, rfl, ⟨⟨w.heap.size, by rw [← Hn.out]; rfl⟩, ?_⟩, hb.trans (hb2.mono hsz)⟩
      have ho := own_below HO.out hb2 (fun k hk => (HO.out.lt k hk).2)
      rw [← Hn.out] at ho ⊢
      exact ho
end Go.Proofs.YthilkpjdfjjikaaDoor
end
section
/-
  Where an insert stands; where a text is none.
-/
namespace Go.Proofs.YthilkpjdfjjikaaDoor
open Go.RowKit

def urlA : List Bs := [[104, 114, 101, 102], [115, 114, 99], [97, 99, 116, 105, 111, 110], [99, 105, 116, 101]]
/-- The place of what is put in; whether anything may be. -/
def placeL (st : Nat) (a : Bs) (f : Bool) : Nat × Bool :=
  if st = 0 then (0, true)
  else if st ≠ 9 ∨ a = [115, 116, 121, 108, 101] ∨ a = [115, 114, 99, 100, 111, 99] ∨ Lib.hasPrefix a [111, 110] = true then (0, false)
  else if ¬ a ∈ urlA then (1, true)
  else if f = true then (3, true)
  else (2, true)
set_option maxHeartbeats 4000000 in
set_option maxRecDepth 100000 in
theorem place_any (g : Nat) (m : Mach) (w : World) (h : IsMach w g m) :
    Calls Tryd.prog 30 #[.pointer (some ⟨g, 0, none⟩)] w fun e w' => e = .returned (.tuple #[.int .i64 (((placeL m.st m.attr m.filled).1 : Nat) : Int), .bool (placeL m.st m.attr m.filled).2]) ∧ Below w.heap.size w w' := by
  obtain ⟨st, nm, at', q, f, tl⟩ := m
  have c0 := blk_cell h 0; have c2 := blk_cell h 2; have c4 := blk_cell h 4
  simp only [mcells, List.getElem?_cons_zero, List.getElem?_cons_succ] at c0 c2 c4
  have H := Lib.hid h; clear h
  dsimp only
  obtain ⟨R, hR⟩ : ∃ R, R = placeL st at' f := ⟨_, rfl⟩
  rw [← hR]
  have HR := Lib.hid hR; clear hR
  have H50 : Hid (∀ w, Calls Tryd.prog 50 #[.string (bs at'), .string ⟨#[111, 110]⟩] w fun e w' => e = .returned (.bool (Lib.hasPrefix at' [111, 110])) ∧ w' = w) := fun w => Tryd.strings_HasPrefix (bs at') ⟨#[111, 110]⟩ w
  by_cases h0 : st = 0
  · subst h0
    have hr : R = (0, true) := by rw [HR.out]; rfl
    rw [hr]
    clear hr HR
    go_enter Tryd.func30, Tryd.ntmps30
    go_wp2_with fail
    go_ret2
    exact ⟨rfl, Below.refl _ _⟩
  · have t0 : ((st : Int) == 0) = false := by rw [beq_eq_false_iff_ne]; omega
    by_cases h9 : st = 9
    · subst h9
      have q1 := eq_bs at' [115, 116, 121, 108, 101]
      have q2 := eq_bs at' [115, 114, 99, 100, 111, 99]
      by_cases h1 : at' = [115, 116, 121, 108, 101]
      · rw [show (at' == [115, 116, 121, 108, 101]) = true from beq_iff_eq.2 h1] at q1
        have hr : R = (0, false) := by rw [HR.out]; unfold placeL; rw [if_neg h0, if_pos (.inr (.inl h1))]
        rw [hr]
        clear hr HR h1 q2
        go_enter Tryd.func30, Tryd.ntmps30
        go_wp2_with fail
        go_ret2
        exact ⟨rfl, Below.refl _ _⟩
      · rw [show (at' == [115, 116, 121, 108, 101]) = false from beq_eq_false_iff_ne.2 h1] at q1
        by_cases h2 : at' = [115, 114, 99, 100, 111, 99]
        · rw [show (at' == [115, 114, 99, 100, 111, 99]) = true from beq_iff_eq.2 h2] at q2
          have hr : R = (0, false) := by rw [HR.out]; unfold placeL; rw [if_neg h0, if_pos (.inr (.inr (.inl h2)))]
          rw [hr]
          clear hr HR h1 h2
          go_enter Tryd.func30, Tryd.ntmps30
          go_wp2_with fail
          go_ret2
          exact ⟨rfl, Below.refl _ _⟩
        · rw [show (at' == [115, 114, 99, 100, 111, 99]) = false from beq_eq_false_iff_ne.2 h2] at q2
          cases hp : Lib.hasPrefix at' [111, 110] with
          | true =>
            rw [hp] at H50
            have hr : R = (0, false) := by rw [HR.out]; unfold placeL; rw [if_neg h0, if_pos (.inr (.inr (.inr hp)))]
            rw [hr]
            clear hr HR h1 h2 hp
            go_enter Tryd.func30, Tryd.ntmps30
            go_wp2_with (go_at_call 50; refine (H50.out _).mono ?_; rintro e w9 ⟨rfl, rfl⟩)
            go_ret2
            exact ⟨rfl, Below.refl _ _⟩
          | false =>
            rw [hp] at H50
            have hr1 : R = if ¬ at' ∈ urlA then (1, true) else if f = true then (3, true) else (2, true) := by
              rw [HR.out]; unfold placeL
              rw [if_neg h0, if_neg (by rintro (e | e | e | e); · exact e rfl
                                        · exact h1 e
                                        · exact h2 e
                                        · rw [hp] at e; cases e)]
            have hc := Tryd.slices_Contains_string w.heap.size 0 4 4 (urlA.map bs) (bs at') (w.alloc (.cells (strs urlA).toArray 9)) (by decide) (by decide) (fun j hj => by
              rw [Nat.zero_add, cell_of_row _ w.heap.size j (strs urlA).toArray 9 (0, 0) (heap_alloc_new w _)]
              have hj6 : j < 4 := hj
              match j, hj6 with
              | 0, _ => rfl
              | 1, _ => rfl
              | 2, _ => rfl
              | 3, _ => rfl)
            have hcc : Lib.containsS ((urlA.map bs).take 4) (bs at') = decide (at' ∈ urlA) := by
              rw [Bool.eq_iff_iff, Lib.containsS_iff, decide_eq_true_eq, show (urlA.map bs).take 4 = urlA.map bs from rfl, List.mem_map]
              constructor
              · rintro ⟨y, hy, e⟩; rw [← bs_inj e]; exact hy
              · intro h; exact ⟨at', h, rfl⟩
            rw [hcc] at hc
            have d4 : (w.alloc (.cells (strs urlA).toArray 9)).cell? ⟨g, 4, none⟩ = some (.bool f) := (World.cell?_alloc_lt w _ ⟨g, 4, none⟩ (blk_lt H.out)).trans c4
            have hbw : Below w.heap.size w (w.alloc (.cells (strs urlA).toArray 9)) := (Below.refl _ w).alloc (Nat.le_refl _) _
            have H51 : Hid (Calls Tryd.prog 51 #[.slice (some ⟨w.heap.size, 0, none⟩) 4 4, .string (bs at')] (w.alloc (.cells #[.string ⟨#[104, 114, 101, 102]⟩, .string ⟨#[115, 114, 99]⟩, .string ⟨#[97, 99, 116, 105, 111, 110]⟩, .string ⟨#[99, 105, 116, 101]⟩] 9)) fun e w' => e = .returned (.bool (decide (at' ∈ urlA))) ∧ w' = (w.alloc (.cells #[.string ⟨#[104, 114, 101, 102]⟩, .string ⟨#[115, 114, 99]⟩, .string ⟨#[97, 99, 116, 105, 111, 110]⟩, .string ⟨#[99, 105, 116, 101]⟩] 9))) := hc
            have D4 : Hid ((w.alloc (.cells #[.string ⟨#[104, 114, 101, 102]⟩, .string ⟨#[115, 114, 99]⟩, .string ⟨#[97, 99, 116, 105, 111, 110]⟩, .string ⟨#[99, 105, 116, 101]⟩] 9)).cell? ⟨g, 4, none⟩ = some (.bool f)) := d4
            have HBW : Hid (Below w.heap.size w (w.alloc (.cells #[.string ⟨#[104, 114, 101, 102]⟩, .string ⟨#[115, 114, 99]⟩, .string ⟨#[97, 99, 116, 105, 111, 110]⟩, .string ⟨#[99, 105, 116, 101]⟩] 9))) := hbw
            clear h1 h2 hp HR hc hcc d4 hbw
            have d4 := D4.out
            by_cases hu : at' ∈ urlA
            · rw [decide_eq_true hu] at H51
              rw [if_neg (by simpa using hu)] at hr1
              clear hu
              cases f with
              | true =>
                rw [hr1]
                go_enter Tryd.func30, Tryd.ntmps30
                go_wp2_with (first | (go_at_call 50; refine (H50.out _).mono ?_; rintro e w9 ⟨rfl, rfl⟩) | (go_at_call 51; refine H51.out.mono ?_; rintro e w9 ⟨rfl, rfl⟩))
                go_ret2
                exact ⟨rfl, HBW.out⟩
              | false =>
                rw [hr1]
                go_enter Tryd.func30, Tryd.ntmps30
                go_wp2_with (first | (go_at_call 50; refine (H50.out _).mono ?_; rintro e w9 ⟨rfl, rfl⟩) | (go_at_call 51; refine H51.out.mono ?_; rintro e w9 ⟨rfl, rfl⟩))
                go_ret2
                exact ⟨rfl, HBW.out⟩
            · rw [decide_eq_false hu] at H51
              rw [if_pos hu] at hr1
              rw [hr1]
              clear hu
              go_enter Tryd.func30, Tryd.ntmps30
              go_wp2_with (first | (go_at_call 50; refine (H50.out _).mono ?_; rintro e w9 ⟨rfl, rfl⟩) | (go_at_call 51; refine H51.out.mono ?_; rintro e w9 ⟨rfl, rfl⟩))
              go_ret2
              exact ⟨rfl, HBW.out⟩
    · have t9 : ((st : Int) != 9) = true := by rw [bne_iff_ne]; omega
      have hr : R = (0, false) := by rw [HR.out]; unfold placeL; rw [if_neg h0, if_pos (.inl h9)]
      rw [hr]
      clear hr HR
      go_enter Tryd.func30, Tryd.ntmps30
      go_wp2_with fail
      go_ret2
      exact ⟨rfl, Below.refl _ _⟩
end Go.Proofs.YthilkpjdfjjikaaDoor
end
