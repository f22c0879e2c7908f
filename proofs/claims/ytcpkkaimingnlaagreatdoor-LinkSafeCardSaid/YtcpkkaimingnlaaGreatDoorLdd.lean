/-
  link.dotted; what Resolve's walk leans on.
-/
import Derived.Test.YtcpkkaimingnlaaGreatDoorLdt
namespace Go.Proofs.YtcpkkaimingnlaaGreatDoor
open Go.RowKit

/-- Two blocks of links: the answer's, another one. -/
structure PG (w W : World) (g2 g : Nat) (c2 c : List Value) : Prop where
  b2 : Blk W g2 24 c2
  b : Blk W g 24 c
  bel : Below w.heap.size w W
  ne : g2 ≠ g
  h2 : w.heap.size ≤ g2
  h1 : w.heap.size ≤ g
theorem PG.call {w W W1 : World} {g2 g : Nat} {c2 c : List Value} (h : PG w W g2 g c2 c) (hb : Below W.heap.size W W1) : PG w W1 g2 g c2 c :=
  ⟨blk_below h.b2 hb (blk_lt h.b2), blk_below h.b hb (blk_lt h.b), h.bel.trans (hb.mono h.bel.size), h.ne, h.h2, h.h1⟩
theorem PG.set {w W W1 : World} {g2 g : Nat} {c2 c c' : List Value} (h : PG w W g2 g c2 c) (hb : Blk W1 g 24 c') (ht : Turned W W1 g) : PG w W1 g2 g c2 c' :=
  ⟨ht.blk h.b2 h.ne, hb, ht.below _ _ h.h1 h.bel, h.ne, h.h2, h.h1⟩
theorem PG.set2 {w W W1 : World} {g2 g : Nat} {c2 c c' : List Value} (h : PG w W g2 g c2 c) (hb : Blk W1 g2 24 c') (ht : Turned W W1 g2) : PG w W1 g2 g c' c :=
  ⟨hb, ht.blk h.b (Ne.symm h.ne), ht.below _ _ h.h2 h.bel, h.ne, h.h2, h.h1⟩
theorem PG.drew {w W : World} {g2 g : Nat} {c2 c : List Value} (h : PG w W g2 g c2 c) : PG w W.drew g2 g c2 c :=
  ⟨blk_drew h.b2, blk_drew h.b, h.bel.drew, h.ne, h.h2, h.h1⟩
def errI (r : Option Link) : Int := if r.isSome = true then 0 else 40
theorem parse_val (s : Bs) (w : World) (hT : Tabs w) (hmax : s.length ≤ 9223372036854775807) :
    Calls Tryz.prog 14 #[.string (bs s)] w fun e w' => e = .returned (.tuple #[.agg (lcs ((parseP s).getD Link.zero)).toArray, .int .i64 (errI (parseP s))]) ∧ Below w.heap.size w w' := parse_any s w hT hmax
theorem parse_path (s : Bs) : ((parseP s).getD Link.zero).path.length ≤ 2048 := by
  cases h : parseP s with
  | none => simp [Link.zero]
  | some l =>
    obtain ⟨h1, h2, _, _⟩ := (parseP_iff s l).1 h
    show l.path.length ≤ 2048
    have := congrArg List.length h2
    unfold printL at this
    simp only [List.length_append] at this
    omega
theorem dotted_val (s : Bs) : (dottedP s).getD Link.zero = { (parseP s).getD Link.zero with path := dotsP ((parseP s).getD Link.zero).path } := by
  unfold dottedP
  cases parseP s with
  | none => rfl
  | some l => rfl
theorem dotted_err (s : Bs) : errI (dottedP s) = errI (parseP s) := by
  unfold errI dottedP
  cases parseP s with
  | none => rfl
  | some l => rfl
theorem new_zcs (w : World) : Blk (w.alloc (.cells #[.string ⟨#[]⟩, .string ⟨#[]⟩, .int .i64 0, .string ⟨#[]⟩, .string ⟨#[]⟩, .string ⟨#[]⟩, .bool false, .bool false] 24)) w.heap.size 24 zcs := blk_new w 24 zcs.toArray
theorem lcs_len (l : Link) : (lcs l).length = 8 := rfl
theorem lcs_one (l : Link) : (lcs l).toArray.toList.all (·.oneCell') = true := rfl
set_option maxHeartbeats 4000000 in
set_option maxRecDepth 100000 in
theorem dotted_any (s : Bs) (w : World) (hT : Tabs w) (hmax : s.length ≤ 9223372036854775807) :
    Calls Tryz.prog 54 #[.string (bs s)] w fun e w' => e = .returned (.tuple #[.agg (lcs ((dottedP s).getD Link.zero)).toArray, .int .i64 (errI (dottedP s))]) ∧ Below w.heap.size w w' := by
  rw [dotted_val, dotted_err]
  have hpl := parse_path s
  have hparse := Lib.hid (fun W (h : Below w.heap.size w W) => parse_val s W (hT.below h) hmax)
  generalize (parseP s).getD Link.zero = L at *
  generalize errI (parseP s) = E at *
  have hdots := Lib.hid (fun W (h : Below w.heap.size w W) => dots_any L.path W (hT.below h) (by omega))
  generalize bs s = S at *
  have hA := Lib.hid (below_one w (.cells zcs.toArray 24))
  have hB0 : Blk (w.alloc (.cells zcs.toArray 24)) w.heap.size 24 zcs := by have := blk_new w 24 zcs.toArray; simpa using this
  have hB := Lib.hid hB0
  clear hB0
  clear hT hpl hmax
  have hv : (lcs { L with path := dotsP L.path }) = (lcs L).set 3 (.string (bs (dotsP L.path))) := rfl
  rw [hv]
  clear hv
  have e3 : (lcs L)[3]? = some (.string (bs L.path)) := rfl
  have el := lcs_len L
  have eo := lcs_one L
  have eo2 : ((lcs L).set 3 (.string (bs (dotsP L.path)))).toArray.toList.all (·.oneCell') = true := rfl
  obtain ⟨V, hV⟩ : ∃ V, V = lcs L := ⟨_, rfl⟩
  rw [← hV] at hparse e3 el eo eo2 ⊢
  have E3 := Lib.hid e3; have EL := Lib.hid el; have EO := Lib.hid eo; have EO2 := Lib.hid eo2
  clear e3 el eo eo2 hV
  go_enter Tryz.func54, Tryz.ntmps54
  go_upto_region 1 with fail
  obtain ⟨W0, hW0⟩ : ∃ W0, W0 = w.alloc (.cells zcs.toArray 24) := ⟨_, rfl⟩
  rw [← hW0] at hA hB
  rw [show w.alloc (.cells #[.string ⟨#[]⟩, .string ⟨#[]⟩, .int .i64 0, .string ⟨#[]⟩, .string ⟨#[]⟩, .string ⟨#[]⟩, .bool false, .bool false] 24) = W0 from hW0.symm]
  clear hW0
  go_upto_region 2 with (first | (go_at_call 14; refine (hparse.out _ hA.out).mono ?_; rintro e w1 ⟨rfl, hb1⟩; have HB1 := Lib.hid hb1; clear hb1) | (refine wpList_storeL rfl (.tmp 4) (.tmp 9) rfl w1.heap.size V.toArray (by rfl) (by rfl) zcs (new_zcs w1) (by rw [List.size_toArray]; exact EL.out) rfl EO.out ?_; intro W2 hb2 ht2; have HB2 := Lib.hid hb2; have HT2 := Lib.hid ht2; clear hb2 ht2))
  have hlt : w.heap.size < w1.heap.size := Nat.lt_of_lt_of_le (blk_lt hB.out) HB1.out.size
  have hpg : PG w W2 w.heap.size w1.heap.size zcs V := ⟨HT2.out.blk (blk_alloc (blk_below hB.out HB1.out (blk_lt hB.out)) _) (Nat.ne_of_lt hlt), by simpa using HB2.out, HT2.out.below _ _ (Nat.le_of_lt hlt) ((hA.out.trans (HB1.out.mono hA.out.size)).alloc (Nat.le_of_lt hlt) _), Nat.ne_of_lt hlt, Nat.le_refl _, Nat.le_of_lt hlt⟩
  have HP := Lib.hid hpg
  clear hpg HB2 HT2 hB hparse
  obtain ⟨g, hg⟩ : ∃ g, g = w1.heap.size := ⟨_, rfl⟩
  rw [← hg] at HP ⊢
  clear hlt hg HB1 hA
  have c3 : W2.cell? ⟨g, 3, none⟩ = some (.string (bs L.path)) := by rw [blk_cell HP.out.b 3]; exact E3.out
  go_upto_region 3 with (first | (go_at_call 19; refine (hdots.out _ HP.out.bel).mono ?_; rintro e w3 ⟨rfl, hb1⟩; have HP3 := Lib.hid (HP.out.call hb1); clear hb1) | (refine wpList_storeC rfl 9 (.tmp 14) (.tmp 13) rfl g 3 _ (by rfl) (by rfl) rfl info9 24 _ HP3.out.b (by rw [EL.out]; decide) ?_; intro W4 hb1 ht1; have HP4 := Lib.hid (HP3.out.set hb1 ht1); clear hb1 ht1))
  go_wp2_with (first | (refine wpList_loadL rfl (.tmp 4) rfl g (by rfl) _ HP4.out.b (by rw [List.length_set]; exact EL.out) ?_) | (refine wpList_storeL rfl (.tmp 2) (.tmp 15) rfl w.heap.size _ (by rfl) (by rfl) _ HP4.out.b2 (by rw [List.size_toArray, List.length_set]; exact EL.out) rfl EO2.out ?_; intro W9 hb9 ht9))
  refine bodyPost_ret (v := _) (results_link Tryz.results54 _ _ w.heap.size _ rfl hb9 (by rw [List.length_set]; exact EL.out)) rfl ?_
  exact ⟨rfl, ht9.below _ _ (Nat.le_refl _) HP4.out.bel⟩
end Go.Proofs.YtcpkkaimingnlaaGreatDoor
