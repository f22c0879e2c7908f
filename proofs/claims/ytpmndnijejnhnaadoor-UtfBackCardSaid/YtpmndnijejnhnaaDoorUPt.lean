/-
  utf.Points: the code points that ranging over a text gives.
-/
import Derived.Lib.OthersKept
import Derived.WalkSmall
import Derived.Test.YtpmndnijejnhnaaDoorDec
namespace Go.Proofs.YtpmndnijejnhnaaDoor
open Go.RowKit

theorem fixedL_cons (x : UInt8) (r : List UInt8) : fixedL (x :: r) = fixP (readL (x :: r)).1 :: fixedL ((x :: r).drop (readL (x :: r)).2) := by
  unfold fixedL; rw [ptsL_cons, List.map_cons]

set_option maxHeartbeats 2000000 in
theorem upoints_any (l : List UInt8) (w : World) (hl : l.length ≤ 60000) :
    Calls Tryd.prog 15 #[.string ⟨l.toArray⟩] w fun e w' => ∃ v, e = .returned v ∧ w'.ownsRow w.heap.size 3 1 v (fixedL l).length (ints (fixedL l)) ∧ Below w.heap.size w w' := by
  have hdec := Lib.hid (decode_read l)
  have hsz : (⟨l.toArray⟩ : ByteArray).size = l.length := by simp [ByteArray.size]
  obtain ⟨S, hS⟩ : ∃ S, S = (⟨l.toArray⟩ : ByteArray) := ⟨_, rfl⟩
  rw [← hS] at hdec hsz ⊢
  clear hS
  obtain ⟨n, hn⟩ : ∃ n, n = l.length := ⟨_, rfl⟩
  rw [← hn] at hsz hl
  have Hn := Lib.hid hn; have Hsz := Lib.hid hsz; clear hn hsz
  go_enter Tryd.func15, Tryd.ntmps15
  go_wp2_with fail
  go_loopw [3] (fun v wr => ∃ (m q : Nat) (done : List Int), m ≤ n ∧ q = done.length ∧ q ≤ m ∧ fixedL l = done ++ fixedL (l.drop m) ∧ wr.heap[w.heap.size]? = some (.stringIter S m) ∧ wr.ownsRow (w.heap.size + 1) 3 1 v q (ints done) ∧ Below w.heap.size w wr)
    (fun _ wr => n - wr.iterPos w.heap.size)
  case atStart => exact ⟨0, 0, [], by omega, rfl, by omega, by simp, by first | exact World.alloc_heap_new w _ | exact World.iter_heap _ _ _, World.ownsRow_nil _ _ _ _, (Below.refl _ w).alloc (Nat.le_refl _) _⟩
  case round =>
    obtain ⟨m, q, done, hm, hq, hqm, hpts, hit, hown, hB⟩ := hrel
    obtain ⟨A2, c2, rfl, hc2, _⟩ := own_form hown
    have hbs : w.heap.size < wr.heap.size := (Array.getElem?_eq_some_iff.1 hit).1
    have hip : wr.iterPos w.heap.size = m := by unfold World.iterPos; rw [hit]
    have Hpts := Lib.hid hpts; have Hq := Lib.hid hq; have Hip := Lib.hid hip
    clear hpts hq hip
    by_cases hmn : m < n
    · obtain ⟨x, r, hxr⟩ : ∃ x r, l.drop m = x :: r := by
        cases hd : l.drop m with
        | nil => have := congrArg List.length hd; rw [List.length_drop, ← Hn.out] at this; simp at this; omega
        | cons x r => exact ⟨x, r, rfl⟩
      have hrl : r.length + 1 = n - m := by have := congrArg List.length hxr; rw [List.length_drop, ← Hn.out] at this; simpa using this.symm
      have hd := hdec.out m x r hxr
      have hle := readL_le x r
      have hrg := readL_range x r
      have hcons : fixedL l = (done ++ [fixP (readL (x :: r)).1]) ++ fixedL (l.drop (m + (readL (x :: r)).2)) := by
        rw [Hpts.out, hxr, fixedL_cons, List.append_assoc, ← List.drop_drop, hxr]; rfl
      have hfr : 0 ≤ fixP (readL (x :: r)).1 ∧ fixP (readL (x :: r)).1 ≤ 1114111 := by
        unfold fixP; split <;> omega
      obtain ⟨p, hp⟩ : ∃ p : Nat, fixP (readL (x :: r)).1 = (p : Int) := ⟨(fixP (readL (x :: r)).1).toNat, by omega⟩
      rw [hp] at hd hcons hfr
      rw [Int.toNat_natCast] at hd
      obtain ⟨wd, hwd⟩ : ∃ wd, wd = (readL (x :: r)).2 := ⟨_, rfl⟩
      rw [← hwd] at hd hcons hle
      have hnx := fun ty => Lib.run_next_any_at (P := Tryd.prog) wr w.heap.size S m ty hit (by rw [Hsz.out]; exact hmn)
      rw [hd] at hnx
      dsimp only at hnx
      have Hcons := Lib.hid hcons
      clear hcons hxr hd hp hwd hrg
      obtain ⟨W, hW⟩ : ∃ W, W = wr.iterAt w.heap.size S (m + wd) := ⟨_, rfl⟩
      rw [← hW] at hnx
      have hitW : W.heap[w.heap.size]? = some (.stringIter S (m + wd)) := by rw [hW]; exact Lib.iterAt_heap _ _ _ _ _ hit
      have hownW : W.ownsRow (w.heap.size + 1) 3 1 (.slice A2 q c2) q (ints done) := by rw [hW]; exact ownsRow_iterAt hown (Nat.lt_succ_self _) _ _
      have hBW : Below w.heap.size w W := by rw [hW]; exact Lib.below_iterAt hB (Nat.le_refl _) _ _
      have hsW : W.heap.size = wr.heap.size := by rw [hW]; exact Lib.iterAt_size _ _ _ _
      have hWle : w.heap.size + 1 ≤ W.heap.size := by omega
      have Hown := Lib.hid hownW
      clear hown hownW hW hit hsW
      go_wp2_with (at_builtin; refine wpList_push rfl (.tmp 11) (.tmp 14) 25 rfl (w.heap.size + 1) 3 (.int .i64 0) 1 8 Tryd.underlying25 (by kernel_rfl) rfl (by decide) _ _ _ rfl Hown.out _ 1 (by decide) rfl rfl rfl (by omega) (by omega) (by omega) ?_; intro g4 cap4 w4 hown4 hg4 hb4; rw [ints_snoc] at hown4; have Hown4 := Lib.hid hown4; clear hown4)
      have hit4 : w4.heap[w.heap.size]? = some (.stringIter S (m + wd)) := (hb4.block _ (Nat.lt_succ_self _)).trans hitW
      have hip4 : w4.iterPos w.heap.size = m + wd := by unfold World.iterPos; rw [hit4]
      go_roundw
      case rel => exact ⟨m + wd, q + 1, done ++ [(p : Int)], by omega, by rw [List.length_append, Hq.out]; rfl, by omega, Hcons.out, hit4, Hown4.out, hBW.trans (hb4.mono (by omega))⟩
      case measure => rw [Hip.out, hip4]; omega
    · obtain rfl : m = n := by omega
      have hnx := fun ty => Lib.run_next_end_at (P := Tryd.prog) wr w.heap.size S m ty hit (by rw [Hsz.out]; exact hmn)
      have hend : fixedL l = done := by
        rw [Hpts.out, List.drop_of_length_le (by rw [← Hn.out]; exact Nat.le_refl _)]
        exact List.append_nil _
      have Hend := Lib.hid hend; have Hown := Lib.hid hown; clear hend hown
      go_wp2_with fail
      go_ret
      refine ⟨_, rfl, ?_, hB⟩
      rw [Hend.out, ← Hq.out]; exact own_base Hown.out (Nat.le_succ _)
end Go.Proofs.YtpmndnijejnhnaaDoor
