/-
  The blocks of sixty-four, one by one: the standard library's chunks over bytes, as a contract of an iterator.
-/
import Derived.RangeFuncNested
import Derived.RangeFuncBound
import Derived.RangeFuncCalls
import Derived.RangeFuncLeaves
import Derived.RangeFuncBox
import Derived.Shelf.Abstract
import Derived.Shelf.RegionOpen
import Derived.WalkKit
import Derived.OwnWalkIn
import Derived.TacticsInMore
import Derived.LoopNIn
import Derived.LoopIn
import Derived.Test.YtknoonkjkdjkbaaSpec
namespace Go.Proofs.Ytknoonkjkdjkbaa
open Go.RowKit Go.Shelf

attribute [local go_sem] Oper.semAt_some

abbrev Ix (m : Nat) := { k : Nat // k < m }
/-- what has come when k rounds are over. -/
def upto (m k : Nat) (hk : k ≤ m) : List (Ix m) := (List.range k).attach.map fun j => ⟨j.1, Nat.lt_of_lt_of_le (List.mem_range.1 j.2) hk⟩
theorem upto_length (m k : Nat) (hk : k ≤ m) : (upto m k hk).length = k := by simp [upto]
theorem upto_val (m k : Nat) (hk : k ≤ m) : (upto m k hk).map (·.1) = List.range k := by
  simp [upto, Function.comp_def]
theorem upto_succ (m k : Nat) (hk : k + 1 ≤ m) : upto m (k + 1) hk = upto m k (by omega) ++ [⟨k, by omega⟩] := by
  have hinj : ∀ a b : List (Ix m), a.map (·.1) = b.map (·.1) → a = b := by
    intro a
    induction a with
    | nil => intro b h; cases b with | nil => rfl | cons _ _ => simp at h
    | cons x a ih =>
      intro b h
      cases b with
      | nil => simp at h
      | cons y b =>
        simp only [List.map_cons, List.cons.injEq] at h
        rw [Subtype.ext h.1, ih b h.2]
  apply hinj
  rw [upto_val, List.map_append, upto_val, List.range_succ]; rfl
theorem upto_zero (m : Nat) (h : 0 ≤ m) : upto m 0 h = [] := by rfl

theorem chunk_in (F : Fence) (n : Nat) (h18 : F.fn 18) (hro : F.round = none) (a : Option Addr) (len cap : Nat) (w : World) :
    CallsIn F n Try.prog 18 #[.slice a len cap, .int .i64 64] w fun e w' => e = .returned (.func (.func 23) #[] #[.pointer (some ⟨w.heap.size, 0, none⟩), .pointer (some ⟨w.heap.size + 1, 0, none⟩)]) ∧ w' = (w.alloc (.cells #[.slice a len cap] 22)).alloc (.cells #[.int .i64 64] 3) := by
  refine callsIn_of_wp Try.func18 rfl h18 ?_ hro
  simp only [Try.ntmps18, List.size_toArray, List.length_cons, List.length_nil, Nat.reduceAdd, Nat.reduceSub, Array.replicate_succ, Array.replicate_zero, List.push_toArray, List.append_toArray, List.nil_append, List.cons_append]
  gi_wp2
  go_ret
  exact ⟨rfl, rfl⟩

/-- The two boxes of the iterator lie as they lay. -/
def Same2 (Bs Bn : Nat) (A B : World) : Prop := B.heap[Bs]? = A.heap[Bs]? ∧ B.heap[Bn]? = A.heap[Bn]?
theorem Same2.trans {Bs Bn : Nat} {A B C : World} (h : Same2 Bs Bn A B) (k : Same2 Bs Bn B C) : Same2 Bs Bn A C := ⟨k.1.trans h.1, k.2.trans h.2⟩
theorem Same2.cells {Bs Bn : Nat} {A B : World} (h : Same2 Bs Bn A B) : B.cell? ⟨Bs, 0, none⟩ = A.cell? ⟨Bs, 0, none⟩ ∧ B.cell? ⟨Bn, 0, none⟩ = A.cell? ⟨Bn, 0, none⟩ := by
  have h1 := h.1; have h2 := h.2
  constructor <;> simp only [World.cell?, h1, h2]

set_option maxRecDepth 100000 in
set_option maxHeartbeats 4000000 in
theorem chunk1_in (n : Nat) (hn : 1 ≤ n) (l Bs Bn g cap m : Nat) (hm : m ≤ 100000) (hcap : 64 * m ≤ cap) (_hc0 : (cap : Int) < 9223372036854775808) (J Jx : List (Ix m) → World → Prop)
    (hJd : ∀ pre W, J pre W → ∀ k, J pre (W.drewN k))
    (hY : ∀ pre x W, J pre W → pre.length < m → YieldAt Fence.wide (n - 1) Try.prog l #[.slice (some ⟨g, 64 * x.1, none⟩) 64 64] W fun e W' =>
      (e = .returned (.bool true) ∧ J (pre ++ [x]) W' ∧ Same2 Bs Bn W W') ∨ (e = .returned (.bool false) ∧ Jx (pre ++ [x]) W'))
    (W : World) (hBs : W.cell? ⟨Bs, 0, none⟩ = some (.slice (some ⟨g, 0, none⟩) (64 * m) cap)) (hBn : W.cell? ⟨Bn, 0, none⟩ = some (.int .i64 64)) (h0 : J [] W) :
    CallsIn Fence.wide n Try.prog 23 #[.func (.yield l) #[] #[], .pointer (some ⟨Bs, 0, none⟩), .pointer (some ⟨Bn, 0, none⟩)] W fun e W' => (∃ v, e = .returned v) ∧
      ((∃ ys, (∃ hk : m ≤ m, ys = upto m m hk) ∧ J ys W') ∨ (∃ pre, True ∧ Jx pre W')) := by
  refine callsIn_of_wp Try.func23 rfl trivial ?_ rfl
  simp only [Try.ntmps23, List.size_toArray, List.length_cons, List.length_nil, Nat.reduceAdd, Nat.reduceSub, Array.replicate_succ, Array.replicate_zero, List.push_toArray, List.append_toArray, List.nil_append, List.cons_append]
  gi_wp2
  gi_loopw [4] (fun i wr => ∃ k : Nat, ∃ hk : k ≤ m, i = .int .i64 (64 * (k : Int)) ∧ J (upto m k hk) wr ∧ Same2 Bs Bn W wr)
    (fun i _ => 64 * m - (intOf i).toNat)
  case atStart => exact ⟨0, Nat.zero_le _, rfl, h0, rfl, rfl⟩
  case round =>
    obtain ⟨k, hk, rfl, hJs, hnx⟩ := hrel
    have hcs := hnx.cells.1.trans hBs
    have hcn := hnx.cells.2.trans hBn
    by_cases hlt : k < m
    · have ht : decide (64 * (k : Int) < ((64 * m : Nat) : Int)) = true := by simp; omega
      have hl0 : 0 ≤ 64 * (k : Int) := by omega
      have hl1 : 64 * (k : Int) ≤ ((64 * m : Nat) : Int) := by omega
      have hw1 : wrap64 (((64 * m : Nat) : Int) - 64 * (k : Int)) = ((64 * m : Nat) : Int) - 64 * (k : Int) := (by unfold wrap64; omega)
      gi_wp2
      refine wpIn_wide.2 ?_
      go_quiet (fail)
      have hJ2 := hJd _ _ hJs nq
      have hn2 : Same2 Bs Bn W (wr.drewN nq) := hnx
      obtain ⟨wq, hwq⟩ : ∃ wq, wq = wr.drewN nq := ⟨_, rfl⟩
      rw [← hwq] at hJ2 hn2 ⊢
      have hcs2 := hn2.cells.1.trans hBs
      have hcn2 := hn2.cells.2.trans hBn
      clear hwq hcs hcn hJs hnx
      obtain ⟨fn, tmps, assign, body, hy, hR⟩ := hY _ ⟨k, hlt⟩ wq hJ2 (by rw [upto_length]; exact hlt)
      have ha1 : wrap64 (64 * (k : Int) + 64) = 64 * (k : Int) + 64 := (by unfold wrap64; omega)
      dsimp only at hy
      gi_wp2
      refine hR.mono ?_
      clear hY hy hR
      rintro e W3 (⟨rfl, hJ3, hk3⟩ | ⟨rfl, hJx3⟩)
      · have hn3 := hn2.trans hk3
        have hcn3 := hn3.cells.2.trans hBn
        have e64 : 64 * k + 64 - 64 * k = 64 := by omega
        rw [e64]
        clear hcs2 hcn2 hw1 hl0 hl1 ht hJ2 e64 hBs hBn
        gi_wp2
        go_roundw
        case rel =>
          refine ⟨k + 1, by omega, ?_, by rw [upto_succ m k (by omega)]; exact hJ3, hn2.trans hk3⟩
          congr 1
        case measure => simp [intOf]; omega
      · gi_wp2
        refine bodyPost_ret (results_none rfl _ _ _) rfl ?_
        exact ⟨⟨_, rfl⟩, .inr ⟨_, trivial, hJx3⟩⟩
    · obtain rfl : k = m := by omega
      gi_wp2
      go_end0
      exact ⟨⟨_, rfl⟩, .inl ⟨_, ⟨Nat.le_refl _, rfl⟩, hJs⟩⟩

/-- The iterator of chunks, whole. -/
theorem chunk_stops (n : Nat) (hn : 1 ≤ n) (Bs Bn g cap m : Nat) (hm : m ≤ 100000) (hcap : 64 * m ≤ cap) (hc0 : (cap : Int) < 9223372036854775808) (w : World) (hBs0 : Bs < w.heap.size) (hBn0 : Bn < w.heap.size)
    (hBs : w.cell? ⟨Bs, 0, none⟩ = some (.slice (some ⟨g, 0, none⟩) (64 * m) cap)) (hBn : w.cell? ⟨Bn, 0, none⟩ = some (.int .i64 64)) :
    SeqStopsK Fence.wide n Try.prog 23 #[.pointer (some ⟨Bs, 0, none⟩), .pointer (some ⟨Bn, 0, none⟩)] (fun x : Ix m => #[Value.slice (some ⟨g, 64 * x.1, none⟩) 64 64]) (Same2 Bs Bn) (fun ys => ∃ hk : m ≤ m, ys = upto m m hk) (fun _ => True) m w :=
  fun l J Jx W hW hJ _ hY h0 =>
    chunk1_in n hn l Bs Bn g cap m hm hcap hc0 J Jx (fun pre W1 hs k => hJ pre W1 (W1.drewN k) none hs ⟨rfl, rfl, rfl, Nat.le_refl _, fun _ _ _ => rfl⟩ (fun r e => by cases e)) hY W ((hW.cell (p := ⟨Bs, 0, none⟩) hBs0).trans hBs) ((hW.cell (p := ⟨Bn, 0, none⟩) hBn0).trans hBn) h0
theorem same2_t {Bs Bn : Nat} {A B C : World} (h : Same2 Bs Bn A B) (k : Same2 Bs Bn B C) : Same2 Bs Bn A C := h.trans k
theorem same2_b {Bs Bn : Nat} {w : World} (h1 : Bs < w.heap.size) (h2 : Bn < w.heap.size) (W : World) (l : Nat) (o o' : Obj) (hl : w.heap.size ≤ l) (_ : W.heap[l]? = some o) (_ : o.isCells = false) (_ : o.isWalk = false) : Same2 Bs Bn W (W.putObj l o') :=
  ⟨World.putObj_heap_other (by omega), World.putObj_heap_other (by omega)⟩
end Go.Proofs.Ytknoonkjkdjkbaa
