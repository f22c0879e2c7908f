/-
  The reference's code points of any bytes.
-/
import Derived.Test.YtpmndnijejnhnaaDoorRd
namespace Go.Proofs.YtpmndnijejnhnaaDoor
open Go.RowKit

def ints (l : List Int) : List Value := l.map (Value.int .i64)
theorem ints_one (l : List Int) : ∀ u ∈ ints l, u.oneCell' = true := by
  intro u hu; simp only [ints, List.mem_map] at hu; obtain ⟨x, _, rfl⟩ := hu; rfl
theorem ints_snoc (l : List Int) (x : Int) : ints l ++ #[Value.int .i64 x].toList = ints (l ++ [x]) := by simp [ints]

theorem readL_le (x : UInt8) (r : List UInt8) : 1 ≤ (readL (x :: r)).2 ∧ (readL (x :: r)).2 ≤ r.length + 1 := by
  simp only [readL]
  split
  · exact ⟨Nat.le_refl _, by simp⟩
  · split
    · exact ⟨Nat.le_refl _, by simp⟩
    · rename_i n least b hh
      have hn := hdB_some hh
      split
      · exact ⟨Nat.le_refl _, by simp⟩
      · split
        · exact ⟨Nat.le_refl _, by simp⟩
        · split
          · exact ⟨Nat.le_refl _, by simp⟩
          · exact ⟨by show 1 ≤ n; omega, by show n ≤ r.length + 1; omega⟩
theorem isPt_range {p : Int} (h : isPt p = true) : 0 ≤ p ∧ p ≤ 1114111 := by
  simp only [isPt, Bool.and_eq_true, Bool.or_eq_true, decide_eq_true_eq] at h; omega
theorem readL_range (x : UInt8) (r : List UInt8) : -1 ≤ (readL (x :: r)).1 ∧ (readL (x :: r)).1 ≤ 1114111 := by
  simp only [readL]
  split
  · exact ⟨by show (-1 : Int) ≤ (x.toNat : Nat); omega, by show ((x.toNat : Nat) : Int) ≤ 1114111; omega⟩
  · split
    · exact ⟨by decide, by decide⟩
    · split
      · exact ⟨by decide, by decide⟩
      · split
        · exact ⟨by decide, by decide⟩
        · rename_i p hp
          split
          · exact ⟨by decide, by decide⟩
          · rename_i hq
            have : isPt p = true := by
              cases hi : isPt p with
              | true => rfl
              | false => exact absurd (Or.inr hi) hq
            have := isPt_range this
            exact ⟨by show -1 ≤ p; omega, this.2⟩

/-- The code points of bytes, -1 for bad ones. -/
def ptsF : Nat → List UInt8 → List Int
  | 0, _ => []
  | _ + 1, [] => []
  | f + 1, x :: r => (readL (x :: r)).1 :: ptsF f ((x :: r).drop (readL (x :: r)).2)
def ptsL (l : List UInt8) : List Int := ptsF l.length l
theorem str_from (l : List UInt8) (m : Nat) (h : m ≤ l.length) (w : World) : (Instr.slice 9 (.string ⟨l.toArray⟩) (some (.int .i64 (m : Int))) none none).run Tryd.prog w = .ok (.string ⟨(l.drop m).toArray⟩) w := by
  have hs : (⟨l.toArray⟩ : ByteArray).size = l.length := by simp [ByteArray.size]
  rw [run_slice_string_from_if w 9 _ .i64 _ Tryd.underlying9]
  rw [if_pos ⟨by omega, by rw [hs]; omega⟩]
  congr 2
  apply ByteArray.ext
  rw [ByteArray.data_extract]
  apply Array.ext'
  rw [hs]
  simp only [Array.toList_extract, List.extract_eq_take_drop]
  rw [List.take_of_length_le (by simp), Int.toNat_natCast]
theorem ptsF_more : ∀ (f : Nat) (l : List UInt8), l.length ≤ f → ptsF f l = ptsL l := by
  have key : ∀ (f g : Nat) (l : List UInt8), l.length ≤ f → l.length ≤ g → ptsF f l = ptsF g l := by
    intro f
    induction f with
    | zero =>
      intro g l hf _
      cases l with
      | nil => cases g <;> rfl
      | cons x r => simp at hf
    | succ f ih =>
      intro g l hf hg
      cases l with
      | nil => cases g <;> rfl
      | cons x r =>
        cases g with
        | zero => simp at hg
        | succ g =>
          have h1 := (readL_le x r).1
          simp only [ptsF]
          rw [ih g _ (by rw [List.length_drop]; omega) (by rw [List.length_drop]; omega)]
  intro f l h
  exact key f l.length l h (Nat.le_refl _)
theorem ptsL_cons (x : UInt8) (r : List UInt8) : ptsL (x :: r) = (readL (x :: r)).1 :: ptsL ((x :: r).drop (readL (x :: r)).2) := by
  have h1 := (readL_le x r).1
  show ptsF (r.length + 1) (x :: r) = _
  rw [ptsF, ptsF_more _ _ (by rw [List.length_drop]; simp; omega)]
theorem ptsL_length : ∀ (n : Nat) (l : List UInt8), l.length ≤ n → (ptsL l).length ≤ l.length := by
  intro n
  induction n with
  | zero => intro l h; cases l with | nil => exact Nat.le_refl _ | cons x r => simp at h
  | succ n ih =>
    intro l h
    cases l with
    | nil => exact Nat.le_refl _
    | cons x r =>
      have h1 := (readL_le x r).1
      have h2 := ih ((x :: r).drop (readL (x :: r)).2) (by rw [List.length_drop]; omega)
      rw [ptsL_cons, List.length_cons]
      rw [List.length_drop] at h2
      simp only [List.length_cons] at h2 ⊢
      omega

set_option maxHeartbeats 2000000 in
theorem points_any (l : List UInt8) (w : World) (hl : l.length ≤ 10000) :
    Calls Tryd.prog 28 #[.string ⟨l.toArray⟩] w fun e w' => ∃ v, e = .returned v ∧ w'.ownsRow w.heap.size 3 1 v (ptsL l).length (ints (ptsL l)) ∧ Below w.heap.size w w' := by
  have hcut := Lib.hid (str_from l)
  have hsz : (⟨l.toArray⟩ : ByteArray).size = l.length := by simp [ByteArray.size]
  obtain ⟨S, hS⟩ : ∃ S, S = (⟨l.toArray⟩ : ByteArray) := ⟨_, rfl⟩
  rw [← hS] at hcut hsz ⊢
  clear hS
  obtain ⟨n, hn⟩ : ∃ n, n = l.length := ⟨_, rfl⟩
  rw [← hn] at hsz hl
  have Hn := Lib.hid hn; clear hn
  go_enter Tryd.func28, Tryd.ntmps28
  go_wp2_with fail
  go_loopw [3, 4] (fun v i wr => ∃ (m q : Nat) (done : List Int), m ≤ n ∧ i = .int .i64 m ∧ q = done.length ∧ q ≤ m ∧ ptsL l = done ++ ptsL (l.drop m) ∧ wr.ownsRow w.heap.size 3 1 v q (ints done) ∧ Below w.heap.size w wr)
    (fun _ i _ => n - (intOf i).toNat)
  case atStart => exact ⟨0, 0, [], by omega, rfl, rfl, by omega, by simp, World.ownsRow_nil _ _ _ _, Below.refl _ _⟩
  case round =>
    obtain ⟨m, q, done, hm, rfl, hq, hqm, hpts, hown, hB⟩ := hrel
    obtain ⟨A2, c2, rfl, hc2, _⟩ := own_form hown
    have Hown := Lib.hid hown; have hbs := hB.size; have Hpts := Lib.hid hpts; have Hq := Lib.hid hq
    clear hown hpts hq
    by_cases hmn : m < n
    · have hcm := hcut.out m (by rw [← Hn.out]; omega)
      obtain ⟨x, r, hxr⟩ : ∃ x r, l.drop m = x :: r := by
        cases hd : l.drop m with
        | nil => have := congrArg List.length hd; rw [List.length_drop, ← Hn.out] at this; simp at this; omega
        | cons x r => exact ⟨x, r, rfl⟩
      have hrl : r.length + 1 = n - m := by have := congrArg List.length hxr; rw [List.length_drop, ← Hn.out] at this; simpa using this.symm
      have hle := readL_le x r
      have hrg := readL_range x r
      have hcons : ptsL l = (done ++ [(readL (x :: r)).1]) ++ ptsL (l.drop (m + (readL (x :: r)).2)) := by
        rw [Hpts.out, hxr, ptsL_cons, List.append_assoc, ← List.drop_drop, hxr]; rfl
      have hread := read_any x r
      rw [hxr] at hcm
      have Hcons := Lib.hid hcons
      have Hread := Lib.hid hread
      clear hcons hread hxr
      obtain ⟨pt, hpt⟩ : ∃ pt, pt = (readL (x :: r)).1 := ⟨_, rfl⟩
      obtain ⟨wd, hwd⟩ : ∃ wd, wd = (readL (x :: r)).2 := ⟨_, rfl⟩
      rw [← hpt] at Hcons Hread hrg
      rw [← hwd] at Hcons Hread hle
      clear hpt hwd
      generalize (⟨(x :: r).toArray⟩ : ByteArray) = T at *
      go_wp2_with (first
        | (go_at_call 41; refine (Hread.out _ (by omega)).mono ?_; rintro e w' ⟨rfl, rfl⟩)
        | (at_builtin; refine wpList_push rfl (.tmp 18) (.tmp 20) 25 rfl w.heap.size 3 (.int .i64 0) 1 8 Tryd.underlying25 (by kernel_rfl) rfl (by decide) _ _ _ rfl Hown.out _ 1 (by decide) rfl rfl rfl (by omega) (by omega) (by omega) ?_; intro g4 cap4 w4 hown4 hg4 hb4; rw [ints_snoc] at hown4; have Hown4 := Lib.hid hown4; clear hown4))
      go_roundw
      case rel => exact ⟨m + wd, q + 1, done ++ [pt], by omega, by go_num, by rw [List.length_append, Hq.out]; rfl, by omega, Hcons.out, Hown4.out, hB.trans hb4⟩
      case measure => simp [intOf]; omega
    · obtain rfl : m = n := by omega
      have hend : ptsL l = done := by
        rw [Hpts.out, List.drop_of_length_le (by rw [← Hn.out]; exact Nat.le_refl _)]
        exact List.append_nil _
      have Hend := Lib.hid hend; clear hend
      go_wp2_with fail
      go_ret
      refine ⟨_, rfl, ?_, hB⟩
      rw [Hend.out, ← Hq.out]; exact Hown.out
end Go.Proofs.YtpmndnijejnhnaaDoor
