/-
  Paths of a tag.
-/
import Derived.Test.YthilkpjdfjjikaaDoorNam
import Derived.Lib.SplitLaws
namespace Go.Proofs.YthilkpjdfjjikaaDoor
open Go.RowKit

def strs (l : List Bs) : List Value := l.map fun s => Value.string (bs s)
theorem strs_one (l : List Bs) : ∀ u ∈ strs l, u.oneCell' = true := by
  intro u hu; simp only [strs, List.mem_map] at hu; obtain ⟨x, _, rfl⟩ := hu; rfl
theorem strs_at (l : List Bs) (k : Nat) (h : k < l.length) : (strs l)[k]? = some (.string (bs (l.getD k []))) := by simp [strs, h]
theorem take_snocB (l : List Bs) (k : Nat) (h : k < l.length) : l.take (k + 1) = l.take k ++ [l.getD k []] := by
  rw [List.take_succ_eq_append_getElem h]; simp [h]
theorem notname_any (s : Bs) (w : World) (hT : Tabs w) (hl : s.length ≤ 1000000) : Calls Tryd.prog 71 #[.string (bs s)] w fun e w' => e = .returned (.bool (!nameB s)) ∧ Below w.heap.size w w' := by
  have H48 := Lib.hid (name_any s w hT hl)
  go_enter Tryd.func71, Tryd.ntmps71
  go_wp2_with fail
  refine H48.out.mono ?_
  rintro e w' ⟨rfl, hb⟩
  go_wp2_with fail
  go_ret
  exact ⟨rfl, hb⟩
set_option maxHeartbeats 2000000 in
theorem index_any (zs : List Bs) (A : Option Addr) (c B : Nat) (w : World) (hr : Rd w B 1 A zs.length (strs zs)) (hB0 : B ≤ w.heap.size) (hT : Tabs w) (hl : ∀ s ∈ zs, s.length ≤ 1000000) (hn : zs.length ≤ 1000000) :
    Calls Tryd.prog 82 #[.slice A zs.length c, .func (.func 71) #[] #[]] w fun e w' => ∃ i : Int, e = .returned (.int .i64 i) ∧ decide (i ≥ 0) = zs.any (fun s => !nameB s) ∧ Below w.heap.size w w' := by
  have eg : ∀ args w, (callFunc 71 args).run Tryd.prog w = .ok (.enter 71 args) w := enters_of Tryd.func71 (by kernel_rfl) rfl
  have H71 := Lib.hid (fun (s : Bs) (hs : s ∈ zs) (W : World) (hb : Below w.heap.size w W) => notname_any s W (hT.below hb) (hl s hs))
  obtain ⟨n, hne⟩ : ∃ n, n = zs.length := ⟨_, rfl⟩
  rw [← hne] at hr hn ⊢
  have Hr := Lib.hid hr; have Hn := Lib.hid hne
  clear hr hne hT hl
  go_enter Tryd.func82, Tryd.ntmps82
  go_wp2_with fail
  go_loopw [8] (fun i wr => ∃ k : Nat, k ≤ n ∧ i = .int .i64 k ∧ (zs.take k).any (fun s => !nameB s) = false ∧ Below w.heap.size w wr)
    (fun i _ => n - (intOf i).toNat)
  case atStart => exact ⟨0, by omega, rfl, rfl, Below.refl _ _⟩
  case round =>
    obtain ⟨k, hk, rfl, hall, hB⟩ := hrel
    have Hall := Lib.hid hall; clear hall
    by_cases hk8 : k < n
    · obtain ⟨b, off, rfl, hb, hcell⟩ := Hr.out.at_ (by omega)
      have hkl : k < zs.length := by rw [← Hn.out]; exact hk8
      have hck : wr.cell? ⟨b, off + k, none⟩ = some (.string (bs (zs.getD k []))) := by
        rw [hB.cell (p := ⟨b, off + k, none⟩) (by show b < _; omega), hcell k (by omega)]; exact strs_at zs k hkl
      have Hsn := Lib.hid (take_snocB zs k hkl)
      have hmem : zs.getD k [] ∈ zs := by simp [hkl]
      have HC := Lib.hid (H71.out _ hmem wr hB)
      have hmem2 := Lib.hid hmem
      clear hcell hkl hmem
      obtain ⟨s, hs⟩ : ∃ s, s = zs.getD k [] := ⟨_, rfl⟩
      rw [← hs] at hck Hsn HC hmem2
      clear hs
      cases hN : nameB s with
      | true =>
        rw [hN] at HC
        have e1 : (zs.take (k + 1)).any (fun s => !nameB s) = false := by
          rw [Hsn.out, List.any_append, Hall.out]; simp [hN]
        have E1 := Lib.hid e1; clear e1 hN
        go_wp2_with (go_at_fn 71; refine HC.out.mono ?_; rintro e w9 ⟨rfl, hb9⟩)
        exact ⟨⟨k + 1, by omega, by go_num, E1.out, hB.trans (hb9.mono hB.size)⟩, by simp [intOf]; omega⟩
      | false =>
        rw [hN] at HC
        have e1 : zs.any (fun s => !nameB s) = true := by
          rw [List.any_eq_true]; exact ⟨s, hmem2.out, by rw [hN]; rfl⟩
        have E1 := Lib.hid e1; clear e1 hN
        go_wp2_with (go_at_fn 71; refine HC.out.mono ?_; rintro e w9 ⟨rfl, hb9⟩)
        go_ret
        exact ⟨k, rfl, by rw [E1.out, decide_eq_true_eq]; omega, hB.trans (hb9.mono hB.size)⟩
    · obtain rfl : k = n := by omega
      have e1 : zs.any (fun s => !nameB s) = false := by
        have := Hall.out
        rwa [List.take_of_length_le (by rw [← Hn.out]; exact Nat.le_refl _)] at this
      have E1 := Lib.hid e1; clear e1
      go_wp2_with fail
      go_ret
      exact ⟨-1, rfl, by rw [E1.out]; rfl, hB⟩
theorem containsf_any (zs : List Bs) (A : Option Addr) (c B : Nat) (w : World) (hr : Rd w B 1 A zs.length (strs zs)) (hB0 : B ≤ w.heap.size) (hT : Tabs w) (hl : ∀ s ∈ zs, s.length ≤ 1000000) (hn : zs.length ≤ 1000000) :
    Calls Tryd.prog 70 #[.slice A zs.length c, .func (.func 71) #[] #[]] w fun e w' => e = .returned (.bool (zs.any (fun s => !nameB s))) ∧ Below w.heap.size w w' := by
  have H82 := Lib.hid (index_any zs A c B w hr hB0 hT hl hn)
  obtain ⟨n, hne⟩ : ∃ n, n = zs.length := ⟨_, rfl⟩
  rw [← hne] at H82 ⊢
  clear hr hne hT hl
  go_enter Tryd.func70, Tryd.ntmps70
  go_wp2_with fail
  refine H82.out.mono ?_
  rintro e w' ⟨i, rfl, hi, hb⟩
  have HI := Lib.hid hi; clear hi
  go_wp2_with fail
  go_ret
  exact ⟨by rw [← HI.out]; rfl, hb⟩
/-- What strings.Split gives at a full stop. -/
def splitDot (s : Bs) : List Bs := (Lib.splitB ⟨#[46]⟩ 0 (Lib.countB (bs s) ⟨#[46]⟩) (bs s)).map (·.data.toList)
def pathL (s : Bs) : Option (List Bs) := if 5 < (splitDot s).length ∨ (splitDot s).any (fun x => !nameB x) = true then none else some (splitDot s)
theorem splitB_le (sep : ByteArray) : ∀ (k : Nat) (s : ByteArray), ∀ x ∈ Lib.splitB sep 0 k s, x.size ≤ s.size
  | 0, s, x, hx => by rw [Lib.splitB_zero, List.mem_singleton] at hx; rw [hx]; exact Nat.le_refl _
  | k + 1, s, x, hx => by
    unfold Lib.splitB at hx
    split at hx
    · rw [List.mem_singleton] at hx; rw [hx]; exact Nat.le_refl _
    · rcases List.mem_cons.1 hx with rfl | h
      · rw [ByteArray.size_extract]; omega
      · have := splitB_le sep k _ x h
        rw [ByteArray.size_extract] at this
        omega
theorem splitDot_le (s : Bs) : ∀ x ∈ splitDot s, x.length ≤ s.length := by
  intro x hx
  obtain ⟨y, hy, rfl⟩ := List.mem_map.1 hx
  have := splitB_le _ _ _ y hy
  rw [bs_size] at this
  exact this
theorem splitDot_len (s : Bs) : (splitDot s).length = Lib.countB (bs s) ⟨#[46]⟩ + 1 := by
  unfold splitDot
  rw [List.length_map]
  exact (Lib.splitB_all ⟨#[46]⟩ (by decide) 0 _ (bs s) rfl)
theorem splitDot_cells (s : Bs) : (Lib.splitB ⟨#[46]⟩ 0 (Lib.countB (bs s) ⟨#[46]⟩) (bs s)).map Value.string = strs (splitDot s) := by
  unfold strs splitDot
  rw [List.map_map]
  rfl
end Go.Proofs.YthilkpjdfjjikaaDoor
