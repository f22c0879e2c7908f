/-
  What an answer makes of the document's source; what its Hear knows of memory.
-/
import Derived.Test.YtcpkkaimingnlaaGreatDoorFC
import Derived.Test.YtcpkkaimingnlaaGreatDoorRtk
import Derived.Test.YtcpkkaimingnlaaGreatDoorRtg
import Derived.Test.YtcpkkaimingnlaaGreatDoorRpp
import Derived.Test.YtcpkkaimingnlaaGreatDoorRrs
import Derived.Test.YtcpkkaimingnlaaGreatDoorLlp
set_option linter.unusedVariables false
set_option linter.unusedSimpArgs false
namespace Go.Proofs.YtcpkkaimingnlaaGreatDoor
open Go.RowKit

def lastL (r : RSrc) : Bs := r.led.getD (r.led.length - 1) []
def rhearT (per now : Int) (r : RSrc) (st : Int) (loc et mo : Bs) (n : Nat) (A' : Option Addr) (c' : Nat) : RSrc × Bool :=
  if st = 200 ∧ n ≤ 65536 then
    ({ r with own := if 0 < r.led.length ∧ r.lasting = true then lastL r else r.own, ledA := none, ledC := 0, led := [], due := now + per, fails := 0, etag := tagP et, mod := tagP mo }, true)
  else if st = 304 ∧ r.led.length = 0 ∧ r.etag ++ r.mod ≠ [] then ({ r with due := now + per, fails := 0 }, false)
  else match ledP (toS r) st loc with
    | some tgt => ({ r with lasting := (decide (r.led.length = 0) || r.lasting) && (decide (st = 301) || decide (st = 308)), ledA := A', ledC := c', led := r.led ++ [tgt], due := now + 1 }, false)
    | none => ({ r with ledA := none, ledC := 0, led := [], fails := min (r.fails + 1) 6, due := now + per * 2 ^ (min (r.fails + 1) 6).toNat }, false)
def rhearA (per now : Int) (r : RSrc) (a : Ans) (n : Nat) (A' : Option Addr) (c' : Nat) : RSrc × Bool :=
  rhearT per now { r with out := false } (if a.lost = true then 0 else a.status) (if a.lost = true then [] else a.loc) (if a.lost = true then [] else a.etag) (if a.lost = true then [] else a.mod) (if a.lost = true then 0 else n) A' c'
theorem toS_hearT (per now : Int) (r : RSrc) (st : Int) (loc et mo : Bs) (n : Nat) (A' : Option Addr) (c' : Nat) :
    (toS (rhearT per now r st loc et mo n A' c').1, (rhearT per now r st loc et mo n A' c').2) = hearT per now (toS r) st loc et mo n := by
  unfold rhearT hearT
  by_cases h1 : st = 200 ∧ n ≤ 65536
  · rw [if_pos h1, if_pos h1]
    refine Prod.ext ?_ rfl
    have e : (if 0 < (toS r).hops ∧ (toS r).lasting = true then (toS r).beside else (toS r).own) = (if 0 < r.led.length ∧ r.lasting = true then lastL r else r.own) := by
      by_cases h : 0 < r.led.length
      · by_cases hl : r.lasting = true
        · rw [if_pos ⟨h, by show (r.lasting && decide (0 < r.led.length)) = true; rw [hl, decide_eq_true h]; rfl⟩, if_pos ⟨h, hl⟩]; rfl
        · rw [if_neg (fun hh => hl (by have : (r.lasting && decide (0 < r.led.length)) = true := hh.2; simp at this; exact this.1)), if_neg (fun hh => hl hh.2)]; rfl
      · rw [if_neg (fun hh => h hh.1), if_neg (fun hh => h hh.1)]; rfl
    rw [e]
    unfold toS settleS
    simp
  · rw [if_neg h1, if_neg h1]
    by_cases h2 : st = 304 ∧ r.led.length = 0 ∧ r.etag ++ r.mod ≠ []
    · rw [if_pos h2, if_pos (show st = 304 ∧ (toS r).hops = 0 ∧ (toS r).etag ++ (toS r).mod ≠ [] from h2)]
      rfl
    · rw [if_neg h2, if_neg (show ¬ (st = 304 ∧ (toS r).hops = 0 ∧ (toS r).etag ++ (toS r).mod ≠ []) from h2)]
      cases ledP (toS r) st loc with
      | none =>
        refine Prod.ext ?_ rfl
        unfold toS settleS
        simp
      | some tgt =>
        refine Prod.ext ?_ rfl
        unfold toS
        by_cases h : r.led.length = 0
        · have h' : r.led = [] := List.length_eq_zero_iff.1 h
          simp [h']
        · have h' : 0 < r.led.length := by omega
          simp [h, h']
theorem toS_hearA (per now : Int) (r : RSrc) (a : Ans) (n : Nat) (A' : Option Addr) (c' : Nat) : (toS (rhearA per now r a n A' c').1, (rhearA per now r a n A' c').2) = hearA per now (toS r) a n := by
  unfold rhearA hearA hearS
  exact toS_hearT ..
section
variable {per now : Int} {r : RSrc} {a : Ans} {n : Nat} {A' : Option Addr} {c' : Nat}
theorem rh_200 (h1 : a.lost = false) (h2 : a.status = 200) (h3 : n ≤ 65536) : rhearA per now r a n A' c' = ({ r with own := if 0 < r.led.length ∧ r.lasting = true then lastL r else r.own, ledA := none, ledC := 0, led := [], due := now + per, fails := 0, etag := tagP a.etag, mod := tagP a.mod, out := false }, true) := by
  unfold rhearA rhearT
  rw [h1, h2]
  simp only [Bool.false_eq_true, if_false, true_and]
  rw [if_pos h3]
  rfl
theorem rh_304 (h1 : a.lost = false) (h2 : a.status = 304) (h3 : r.led.length = 0) (h4 : r.etag ++ r.mod ≠ []) : rhearA per now r a n A' c' = ({ r with due := now + per, fails := 0, out := false }, false) := by
  unfold rhearA rhearT
  rw [h1, h2]
  simp only [Bool.false_eq_true, if_false]
  rw [if_neg (by rintro ⟨h, _⟩; exact absurd h (by decide)), if_pos ⟨trivial, h3, h4⟩]
theorem rh_led {tgt : Bs} (h1 : a.lost = false) (h2 : ledP (toS r) a.status a.loc = some tgt) : rhearA per now r a n A' c' = ({ r with lasting := (decide (r.led.length = 0) || r.lasting) && (decide (a.status = 301) || decide (a.status = 308)), ledA := A', ledC := c', led := r.led ++ [tgt], due := now + 1, out := false }, false) := by
  have hm : moved.contains a.status = true := by
    cases hc : moved.contains a.status with
    | true => rfl
    | false => rw [led_moved hc] at h2; cases h2
  have h200 : a.status ≠ 200 := fun e => by rw [e] at hm; exact absurd hm (by decide)
  have h304 : a.status ≠ 304 := fun e => by rw [e] at hm; exact absurd hm (by decide)
  unfold rhearA rhearT
  rw [h1]
  simp only [Bool.false_eq_true, if_false]
  rw [if_neg (fun h => h200 h.1), if_neg (fun h => h304 h.1)]
  rw [show ledP (toS { r with out := false }) a.status a.loc = some tgt from h2]
theorem rh_none (h1 : ¬ (a.lost = false ∧ a.status = 200 ∧ n ≤ 65536)) (h2 : ¬ (a.lost = false ∧ a.status = 304 ∧ r.led.length = 0 ∧ r.etag ++ r.mod ≠ [])) (h3 : a.lost = true ∨ ledP (toS r) a.status a.loc = none) :
    rhearA per now r a n A' c' = ({ r with ledA := none, ledC := 0, led := [], fails := min (r.fails + 1) 6, due := now + per * 2 ^ (min (r.fails + 1) 6).toNat, out := false }, false) := by
  unfold rhearA rhearT
  cases hl : a.lost with
  | true =>
    simp only [if_true]
    rw [if_neg (by rintro ⟨h, _⟩; exact absurd h (by decide)), if_neg (by rintro ⟨h, _⟩; exact absurd h (by decide)), led_moved (by decide)]
  | false =>
    simp only [Bool.false_eq_true, if_false]
    rw [if_neg (fun h => h1 ⟨hl, h⟩), if_neg (fun h => h2 ⟨hl, h⟩)]
    have h3' : ledP (toS r) a.status a.loc = none := h3.resolve_left (by rw [hl]; decide)
    rw [show ledP (toS { r with out := false }) a.status a.loc = none from h3']
end
theorem info38 : (Tryz.prog.info? 38).map (·.size) = some 1 := by kernel_rfl
/-- What Hear's walk knows of memory. -/
structure RHS (w W : World) (P : Nat → Prop) (g gr o : Nat) (pre post hd : List Value) (r : RSrc) (a : Ans) : Prop where
  src : Blk W gr 64 (pre ++ rcs r ++ post)
  head : Blk W g 62 hd
  ans : Blk W w.heap.size 48 (acs a)
  led : LedRd W P r
  only : Only gr (gr + 1) w W
  lt : gr < w.heap.size
  glt : g < w.heap.size
  ne : g ≠ gr
  hP : ∀ b, P b → b ≠ gr
  pre_ : pre.length = o
section
variable {w W W1 : World} {P : Nat → Prop} {g gr o : Nat} {pre post hd : List Value} {r : RSrc} {a : Ans}
theorem RHS.call (h : RHS w W P g gr o pre post hd r a) (hb : Below W.heap.size W W1) : RHS w W1 P g gr o pre post hd r a :=
  ⟨blk_below h.src hb (blk_lt h.src), blk_below h.head hb (blk_lt h.head), blk_below h.ans hb (blk_lt h.ans), h.led.call hb, h.only.call hb, h.lt, h.glt, h.ne, h.hP, h.pre_⟩
theorem RHS.drewN (h : RHS w W P g gr o pre post hd r a) (n : Nat) : RHS w (W.drewN n) P g gr o pre post hd r a := ⟨h.src, h.head, h.ans, h.led.drewN n, h.only.drewN n, h.lt, h.glt, h.ne, h.hP, h.pre_⟩
theorem RHS.drew (h : RHS w W P g gr o pre post hd r a) : RHS w W.drew P g gr o pre post hd r a := ⟨h.src, h.head, h.ans, h.led.drew, h.only.drew, h.lt, h.glt, h.ne, h.hP, h.pre_⟩
theorem RHS.start (h1 : Blk w gr 64 (pre ++ rcs r ++ post)) (h2 : Blk w g 62 hd) (h3 : LedRd w P r) (ne : g ≠ gr) (hP : ∀ b, P b → b ≠ gr) (hpre : pre.length = o) : RHS w (w.alloc (.cells (acs a).toArray 48)) P g gr o pre post hd r a :=
  ⟨blk_alloc h1 _, blk_alloc h2 _, by have := blk_new w 48 (acs a).toArray; simpa using this, h3.call (below_one w _), (Only.refl _ _ w).alloc _, blk_lt h1, blk_lt h2, ne, hP, hpre⟩
/-- A field of the source turns; its links stay. -/
theorem RHS.put (h : RHS w W P g gr o pre post hd r a) (k : Nat) (v : Value) (hk : k < 8) (r' : RSrc) (hr : rcs r' = (rcs r).set k v) (hl : LedRd W P r → LedRd W P r') (hb : Blk W1 gr 64 ((pre ++ rcs r ++ post).set (o + k) v)) (ht : Turned W W1 gr) : RHS w W1 P g gr o pre post hd r' a := by
  rw [src_set h.pre_ hk, ← hr] at hb
  have ho : Only gr (gr + 1) W W1 := Only.of_turned ht (Nat.le_refl _) (Nat.lt_succ_self _)
  exact ⟨hb, ht.blk h.head h.ne, ht.blk h.ans (Nat.ne_of_gt h.lt), (hl h.led).only ho (fun b hb => by have := h.hP b hb; omega), h.only.turn ht (Nat.le_refl _) (Nat.lt_succ_self _), h.lt, h.glt, h.ne, h.hP, h.pre_⟩
theorem RHS.lts (h : RHS w W P g gr o pre post hd r a) {k : Nat} (hk : k < 8) : o + k < (pre ++ rcs r ++ post).length := src_lt h.pre_ hk
theorem RHS.sc (h : RHS w W P g gr o pre post hd r a) (k : Nat) (v : Value) (hv : (rcs r)[k]? = some v) : W.cell? ⟨gr, o + k, none⟩ = some v := src_cell h.src h.pre_ k v hv
theorem RHS.ac (h : RHS w W P g gr o pre post hd r a) (k : Nat) (v : Value) (hv : (acs a)[k]? = some v) : W.cell? ⟨w.heap.size, k, none⟩ = some v := (blk_cell h.ans k).trans hv
theorem RHS.hc (h : RHS w W P g gr o pre post hd r a) (k : Nat) (v : Value) (hv : hd[k]? = some v) : W.cell? ⟨g, k, none⟩ = some v := (blk_cell h.head k).trans hv
end
end Go.Proofs.YtcpkkaimingnlaaGreatDoor
