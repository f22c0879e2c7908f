/-
  Texts of this seat, joined: Fhn, Fha, Ffi, Fep, Fwm. Each says what it proves, ahead of itself.
-/
import Derived.Test.YtcpkkaimingnlaaGreatDoorFhe
import Derived.Test.YtcpkkaimingnlaaGreatDoorFB
set_option linter.unusedVariables false
set_option linter.unusedSimpArgs false
section
namespace Go.Proofs.YtcpkkaimingnlaaGreatDoor
open Go.RowKit

section
variable {w : World} {lo hi g : Nat} {A : Option Addr} {cap : Nat} {gs : List Nat} {per now : Int} {ss : List Src}
set_option maxHeartbeats 4000000 in
set_option maxRecDepth 100000 in
theorem hear_out (h : Pol w lo hi g A cap gs per now ss) (i : Int) (hi' : i < 0 ∨ (gs.length : Int) ≤ i) (a : Ans) :
    Calls Tryz.prog 32 #[ptr g, .int .i64 i, .agg (acs a).toArray] w fun e w' => e = .returned (.tuple #[.slice none 0 0, .bool false, .int .i64 60]) ∧ Below w.heap.size w w' := by
  have hs65 := Lib.hid (source_out (h.call (below_one w (.cells (acs a).toArray 48))) i hi')
  have hB := Lib.hid (below_one w (.cells (acs a).toArray 48))
  clear h hi'
  unfold ptr at *
  go_enter Tryz.func32, Tryz.ntmps32
  go_wp2_with (go_at_call 65; refine hs65.out.mono ?_; rintro e w' ⟨rfl, rfl⟩)
  go_ret3
  exact ⟨rfl, hB.out⟩
set_option maxHeartbeats 4000000 in
set_option maxRecDepth 100000 in
theorem hear_idle (h : Pol w lo hi g A cap gs per now ss) (i : Nat) (hi' : i < gs.length) (hout : (ss.getD i default).out = false) (a : Ans) :
    Calls Tryz.prog 32 #[ptr g, .int .i64 ((i : Nat) : Int), .agg (acs a).toArray] w fun e w' => e = .returned (.tuple #[.slice none 0 0, .bool false, .int .i64 60]) ∧ Below w.heap.size w w' := by
  have hp := h.call (below_one w (.cells (acs a).toArray 48))
  have hs65 := Lib.hid (source_in hp i hi')
  have hB := Lib.hid (below_one w (.cells (acs a).toArray 48))
  have c6 := hp.src hi' 6 _ rfl
  rw [hout] at c6
  generalize gs.getD i 0 = gi at *
  clear h hi' hp hout
  unfold ptr at *
  go_enter Tryz.func32, Tryz.ntmps32
  go_wp2_with (go_at_call 65; refine hs65.out.mono ?_; rintro e w' ⟨rfl, rfl⟩)
  go_ret3
  exact ⟨rfl, hB.out⟩
end
end Go.Proofs.YtcpkkaimingnlaaGreatDoor
end
section
namespace Go.Proofs.YtcpkkaimingnlaaGreatDoor
open Go.RowKit

theorem tagP_len (s : Bs) : (tagP s).length ≤ 200 := by
  unfold tagP
  split
  · rename_i h
    unfold tagOk at h
    simp only [Bool.and_eq_true, decide_eq_true_eq] at h
    exact h.1
  · exact Nat.zero_le _
theorem led_len {s : Src} {st : Int} {loc x : Bs} (h : ledP s st loc = some x) : x.length ≤ 2048 ∧ s.hops < 5 := by
  unfold ledP at h
  split at h
  · rename_i h1
    refine ⟨?_, h1.2⟩
    split at h
    · cases h
    · split at h
      · rename_i h2
        injection h with h
        rw [← h]; exact h2
      · cases h
  · cases h
theorem SOk.hear {s : Src} (h : SOk s) (per now st : Int) (loc et mo : Bs) (n : Nat) : SOk (hearS per now s st loc et mo n).1 := by
  have h' : SOk { s with out := false } := ⟨h.own, h.beside, h.etag, h.mod, h.fails, h.hops⟩
  unfold hearS
  generalize ({ s with out := false } : Src) = r at *
  unfold hearT
  split
  · refine ⟨?_, Nat.zero_le _, tagP_len _, tagP_len _, ⟨Int.le_refl _, show (0 : Int) ≤ 6 by decide⟩, Nat.zero_le _⟩
    show (if _ then r.beside else r.own).length ≤ 2048
    split
    · exact h'.beside
    · exact h'.own
  · split
    · exact ⟨h'.own, h'.beside, h'.etag, h'.mod, ⟨Int.le_refl _, show (0 : Int) ≤ 6 by decide⟩, h'.hops⟩
    · split
      · rename_i tgt e
        have := led_len e
        exact ⟨h'.own, this.1, h'.etag, h'.mod, h'.fails, by show r.hops + 1 ≤ 5; omega⟩
      · refine ⟨h'.own, Nat.zero_le _, h'.etag, h'.mod, ?_, Nat.zero_le _⟩
        have := h'.fails
        show 0 ≤ min (r.fails + 1) 6 ∧ min (r.fails + 1) 6 ≤ 6
        omega
theorem SOk.tick {s : Src} (h : SOk s) (t : Int) : SOk (tickP t s) := by
  unfold tickP
  split
  · exact ⟨h.own, h.beside, h.etag, h.mod, h.fails, h.hops⟩
  · exact h
theorem SOk.new {s : Bs} (h : (parseP s).isSome = true) : SOk (newS s) := by
  obtain ⟨l, hl⟩ := Option.isSome_iff_exists.1 h
  exact ⟨(sB_parse hl).2, Nat.zero_le _, Nat.zero_le _, Nat.zero_le _, ⟨Int.le_refl _, show (0 : Int) ≤ 6 by decide⟩, Nat.zero_le _⟩
theorem SOk.dflt : SOk default := ⟨Nat.zero_le _, Nat.zero_le _, Nat.zero_le _, Nat.zero_le _, ⟨Int.le_refl _, show (0 : Int) ≤ 6 by decide⟩, Nat.zero_le _⟩
theorem SOk.getD {ss : List Src} (h : ∀ s ∈ ss, SOk s) (i : Nat) : SOk (ss.getD i default) := by
  rcases Nat.lt_or_ge i ss.length with hi | hi
  · exact h _ (by simp [hi])
  · have e : ss.getD i default = default := by simp [List.getElem?_eq_none hi]
    rw [e]; exact SOk.dflt
theorem SOk.map {ss : List Src} (h : ∀ s ∈ ss, SOk s) (t : Int) : ∀ s ∈ ss.map (tickP t), SOk s := fun s hs => by
  obtain ⟨x, hx, rfl⟩ := List.mem_map.1 hs
  exact (h x hx).tick t
theorem SOk.set {ss : List Src} (h : ∀ s ∈ ss, SOk s) (i : Nat) {x : Src} (hx : SOk x) : ∀ s ∈ ss.set i x, SOk s := fun s hs => by
  rcases List.mem_or_eq_of_mem_set hs with h1 | h1
  · exact h s h1
  · rw [h1]; exact hx
/-- An answer, as Hear takes it: is it lost, its body's length. -/
def hearA (per now : Int) (s : Src) (a : Ans) (n : Nat) : Src × Bool :=
  hearS per now s (if a.lost = true then 0 else a.status) (if a.lost = true then [] else a.loc) (if a.lost = true then [] else a.etag) (if a.lost = true then [] else a.mod) (if a.lost = true then 0 else n)
/-- Hear of a poller: its sources behind it, does it take a body, the error. -/
def hearL (per now : Int) (ss : List Src) (i : Int) (a : Ans) (n : Nat) : List Src × Bool × Int :=
  if 0 ≤ i ∧ i < (ss.length : Int) ∧ (ss.getD i.toNat default).out = true then
    (ss.set i.toNat (hearA per now (ss.getD i.toNat default) a n).1, (hearA per now (ss.getD i.toNat default) a n).2, 0)
  else (ss, false, 60)
theorem SOk.hearL {ss : List Src} (h : ∀ s ∈ ss, SOk s) (per now : Int) (i : Int) (a : Ans) (n : Nat) : ∀ s ∈ (hearL per now ss i a n).1, SOk s := by
  unfold Go.Proofs.YtcpkkaimingnlaaGreatDoor.hearL
  split
  · exact SOk.set h _ ((SOk.getD h _).hear ..)
  · exact h
theorem hearL_len (per now : Int) (ss : List Src) (i : Int) (a : Ans) (n : Nat) : (hearL per now ss i a n).1.length = ss.length := by
  unfold hearL
  split
  · exact List.length_set
  · rfl
def HearQ (lb : Bs) (R : List Src × Bool × Int) (w : World) (e : Ending) (w' : World) : Prop :=
  ∃ v, e = .returned (.tuple #[v, .bool R.2.1, .int .i64 R.2.2]) ∧ (R.2.1 = true → BOwn w' w.heap.size v lb) ∧ (R.2.1 = false → v = .slice none 0 0)
section
variable {w : World} {lo hi g : Nat} {A : Option Addr} {cap : Nat} {gs : List Nat} {per now : Int} {ss : List Src}
theorem hear_all (h : Pol w lo hi g A cap gs per now ss) (i : Int) (a : Ans) (lb : Bs) (Ab : Option Addr) (cb : Nat) (hbd : a.body = .slice Ab lb.length cb)
    (hrd : ∀ W, Only lo hi w W → Rd W W.heap.size 1 Ab lb.length (Lib.byteCells lb)) (hll : lb.length ≤ 1000000000) (hok : ∀ s ∈ ss, SOk s)
    (hper : 1 ≤ per ∧ per ≤ 1048576) (hnow : 0 ≤ now ∧ now ≤ 1000000000) (hloc : a.loc.length ≤ 1000000) (het : a.etag.length ≤ 1000000) (hmo : a.mod.length ≤ 1000000)
    (w0 : World) (hT : Tabs w0) (hb0 : Below w0.heap.size w0 w) (hlo : w0.heap.size ≤ lo) :
    Calls Tryz.prog 32 #[ptr g, .int .i64 i, .agg (acs a).toArray] w fun e w' =>
      HearQ lb (hearL per now ss i a lb.length) w e w' ∧ Pol w' lo hi g A cap gs per now (hearL per now ss i a lb.length).1 ∧ Only lo hi w w' := by
  have hgl := h.len
  by_cases hi0 : 0 ≤ i ∧ i < (ss.length : Int)
  · obtain ⟨k, rfl⟩ : ∃ k : Nat, i = (k : Int) := ⟨i.toNat, by omega⟩
    have hk : k < gs.length := by omega
    have hs := h.slo _ (mem_getD hk)
    cases ho : (ss.getD k default).out with
    | true =>
      have e : hearL per now ss (k : Int) a lb.length = (ss.set k (hearA per now (ss.getD k default) a lb.length).1, (hearA per now (ss.getD k default) a lb.length).2, 0) := by
        unfold hearL
        rw [Int.toNat_natCast, if_pos ⟨hi0.1, hi0.2, ho⟩]
      rw [e]
      refine (hear_in h k hk a lb Ab cb hbd (fun W hW => hrd W (hW.more hs.1 (by omega))) hll ho (SOk.getD hok k) hper hnow hloc het hmo w0 hT hb0 hlo).mono ?_
      rintro e' w' ⟨⟨v, he, h1, h2⟩, h3, h4⟩
      exact ⟨⟨v, he, h1, h2⟩, h.back k hk _ h3 h4, h4.more hs.1 (by omega)⟩
    | false =>
      have e : hearL per now ss (k : Int) a lb.length = (ss, false, 60) := by
        unfold hearL
        rw [Int.toNat_natCast, if_neg (by rw [ho]; rintro ⟨_, _, h⟩; cases h)]
      rw [e]
      refine (hear_idle h k hk ho a).mono ?_
      rintro e' w' ⟨he, hb⟩
      exact ⟨⟨_, he, fun h => by (cases h), fun _ => rfl⟩, h.call hb, Only.of_below hb _ _⟩
  · have e : hearL per now ss i a lb.length = (ss, false, 60) := by
      unfold hearL
      rw [if_neg (fun h => hi0 ⟨h.1, h.2.1⟩)]
    rw [e]
    refine (hear_out h i (by omega) a).mono ?_
    rintro e' w' ⟨he, hb⟩
    exact ⟨⟨_, he, fun h => by (cases h), fun _ => rfl⟩, h.call hb, Only.of_below hb _ _⟩
end
end Go.Proofs.YtcpkkaimingnlaaGreatDoor
end
section
namespace Go.Proofs.YtcpkkaimingnlaaGreatDoor
open Go.RowKit

def hH : Bs := [104, 116, 116, 112, 58, 47, 47, 104, 47]
theorem hH_ok : (parseP hH).isSome = true := by kernel_rfl
theorem okNew_hH : okNew 10 [hH] = true := by kernel_rfl
theorem okNew_0 : okNew 0 [] = false := by kernel_rfl
def lostA : Ans := ⟨true, 0, [], [], [], .slice none 0 0⟩
theorem first_asks : asksP 1 0 [newS hH] = [⟨0, hH, [], []⟩] := by kernel_rfl
theorem first_tick : [newS hH].map (tickP 1) = [{ newS hH with out := true }] := by kernel_rfl
theorem first_hear : hearL 10 1 [{ newS hH with out := true }] 0 lostA 0 = ([{ newS hH with fails := 1, due := 21 }], false, 0) := by kernel_rfl
theorem first_hear2 : hearL 10 1 [{ newS hH with fails := 1, due := 21 }] 0 lostA 0 = ([{ newS hH with fails := 1, due := 21 }], false, 60) := by kernel_rfl
theorem first_asks2 : asksP 2 0 [{ newS hH with fails := 1, due := 21 }] = [] := by kernel_rfl
theorem rd_lit (w : World) (l : List Bs) : Rd (w.alloc (.cells (strs l).toArray 9)) (w.alloc (.cells (strs l).toArray 9)).heap.size 1 (some ⟨w.heap.size, 0, none⟩) l.length (strs l) := by
  refine ⟨by simp [strs], fun _ => ⟨w.heap.size, 0, rfl, by simp, fun j hj => ?_⟩⟩
  have h := blk_cell (blk_new w 9 (strs l).toArray) j
  rw [Nat.zero_add]
  exact h
/-- A poller in a law's walk. -/
structure PQ (w W : World) (lo hi g : Nat) (A : Option Addr) (cap : Nat) (gs : List Nat) (per now : Int) (ss : List Src) : Prop where
  pol : Pol W lo hi g A cap gs per now ss
  bel : Below w.heap.size w W
  le : w.heap.size ≤ lo
  ok : ∀ s ∈ ss, SOk s
section
variable {w W W1 : World} {lo hi g : Nat} {A : Option Addr} {cap : Nat} {gs : List Nat} {per now : Int} {ss : List Src}
theorem Below.andThen (h : Below w.heap.size w W) (hb : Below W.heap.size W W1) : Below w.heap.size w W1 := h.trans (hb.mono h.size)
theorem PQ.call (h : PQ w W lo hi g A cap gs per now ss) (hb : Below W.heap.size W W1) : PQ w W1 lo hi g A cap gs per now ss := ⟨h.pol.call hb, Below.andThen h.bel hb, h.le, h.ok⟩
theorem PQ.drew (h : PQ w W lo hi g A cap gs per now ss) : PQ w W.drew lo hi g A cap gs per now ss := ⟨h.pol.drew, h.bel.drew, h.le, h.ok⟩
theorem PQ.drewN (h : PQ w W lo hi g A cap gs per now ss) (n : Nat) : PQ w (W.drewN n) lo hi g A cap gs per now ss := ⟨h.pol.drewN n, below_drewN h.bel n, h.le, h.ok⟩
theorem PQ.step (h : PQ w W lo hi g A cap gs per now ss) {now' : Int} {ss' : List Src} (hp : Pol W1 lo hi g A cap gs per now' ss') (ho : Only lo hi W W1) (hk : ∀ s ∈ ss', SOk s) : PQ w W1 lo hi g A cap gs per now' ss' :=
  ⟨hp, ho.below h.le h.bel.size h.bel, h.le, hk⟩
theorem PQ.other (h : PQ w W lo hi g A cap gs per now ss) {lo2 hi2 : Nat} (hb : Below w.heap.size w W1) (ho : Only lo2 hi2 W W1) (hd : hi ≤ lo2 ∨ hi2 ≤ lo) : PQ w W1 lo hi g A cap gs per now ss :=
  ⟨h.pol.keep ho hd, hb, h.le, h.ok⟩
end
theorem wpList_loadMA {ops : Array Oper} {rest : List Oper} {o : Oper} {a : Act} {w : World} {Q : Exit → Act → World → Prop} (hw : Region.wanted o (yielded ops a.tmps) = true) (x : Operand) (ho : o.op = .load 69 x) (g off : Nat) (hx : a.eval x = .pointer (some ⟨g, off, none⟩)) (k : Ask) (hr : w.rangeAt g off (akc k))
    (h : wpList Tryz.prog ops Q rest (a.put o.dst (.agg (akc k).toArray)) w) : wpList Tryz.prog ops Q (o :: rest) a w :=
  wpList_want hw fun K hK => by unfold Oper.wp; rw [run_loadMA x ho hx hr]; exact hK _ _ h
theorem wpList_valW {P : Program} {ops : Array Oper} {rest : List Oper} {o : Oper} {a : Act} {w : World} {Q : Exit → Act → World → Prop} (hw : Region.wanted o (yielded ops a.tmps) = true) (v : Value) (h1 : (execOp a.eval o).run P w = .ok (.value v) w)
    (h : wpList P ops Q rest (a.put o.dst v) w) : wpList P ops Q (o :: rest) a w :=
  wpList_want hw fun K hK => by unfold Oper.wp; rw [h1]; exact hK _ _ h
section
variable {w W : World} {lo hi g : Nat} {A : Option Addr} {cap : Nat} {gs : List Nat}
theorem first_t1 (h : PQ w W lo hi g A cap gs 10 0 [newS hH]) : Calls Tryz.prog 30 #[ptr g] W fun e w' => (∃ v, e = .returned v ∧ AOwn w' W.heap.size v [⟨0, hH, [], []⟩]) ∧ PQ w w' lo hi g A cap gs 10 1 [{ newS hH with out := true }] := by
  refine (tick_any h.pol ⟨by decide, by decide⟩ (by rw [h.pol.len]; decide)).mono ?_
  rintro e w' ⟨⟨v, he, hv⟩, hp, ho⟩
  have e1 : ((0 : Int) + 1) = 1 := rfl
  rw [e1, first_asks] at hv
  rw [e1, first_tick] at hp
  refine ⟨⟨v, he, hv⟩, h.step hp ho ?_⟩
  rw [← first_tick]
  exact SOk.map h.ok 1
theorem first_h1 (h : PQ w W lo hi g A cap gs 10 1 [{ newS hH with out := true }]) (hT : Tabs w) : Calls Tryz.prog 32 #[ptr g, .int .i64 0, .agg (acs lostA).toArray] W fun e w' => (∃ v, e = .returned (.tuple #[v, .bool false, .int .i64 0])) ∧ PQ w w' lo hi g A cap gs 10 1 [{ newS hH with fails := 1, due := 21 }] ∧ Only lo hi W w' := by
  have hh := hear_all h.pol 0 lostA [] none 0 rfl (fun W _ => Rd.nil) (by decide) h.ok ⟨by decide, by decide⟩ ⟨by decide, by decide⟩ (by decide) (by decide) (by decide) w hT h.bel h.le
  have hk := SOk.hearL h.ok 10 1 0 lostA 0
  rw [show (([] : Bs).length) = 0 from rfl, first_hear] at hh
  rw [first_hear] at hk
  refine hh.mono ?_
  rintro e w' ⟨⟨v, he, _, _⟩, hp, ho⟩
  exact ⟨⟨v, he⟩, h.step hp ho hk, ho⟩
theorem first_h2 (h : PQ w W lo hi g A cap gs 10 1 [{ newS hH with fails := 1, due := 21 }]) (hT : Tabs w) : Calls Tryz.prog 32 #[ptr g, .int .i64 0, .agg (acs lostA).toArray] W fun e w' => (∃ v, e = .returned (.tuple #[v, .bool false, .int .i64 60])) ∧ PQ w w' lo hi g A cap gs 10 1 [{ newS hH with fails := 1, due := 21 }] ∧ Only lo hi W w' := by
  have hh := hear_all h.pol 0 lostA [] none 0 rfl (fun W _ => Rd.nil) (by decide) h.ok ⟨by decide, by decide⟩ ⟨by decide, by decide⟩ (by decide) (by decide) (by decide) w hT h.bel h.le
  rw [show (([] : Bs).length) = 0 from rfl, first_hear2] at hh
  refine hh.mono ?_
  rintro e w' ⟨⟨v, he, _, _⟩, hp, ho⟩
  exact ⟨⟨v, he⟩, h.step hp ho h.ok, ho⟩
theorem first_t2 (h : PQ w W lo hi g A cap gs 10 1 [{ newS hH with fails := 1, due := 21 }]) : Calls Tryz.prog 30 #[ptr g] W fun e w' => (∃ B cp, e = .returned (.slice B 0 cp) ∧ cp ≤ 9223372036854775807) ∧ Below w.heap.size w w' := by
  refine (tick_any h.pol ⟨by decide, by decide⟩ (by rw [h.pol.len]; decide)).mono ?_
  rintro e w' ⟨⟨v, he, hv⟩, hp, ho⟩
  have e1 : ((1 : Int) + 1) = 2 := rfl
  rw [e1, first_asks2] at hv
  obtain ⟨B, cp, hv2, _, hc, _⟩ := hv.form
  exact ⟨⟨B, cp, by rw [he, hv2]; rfl, hc⟩, (ho.below h.le h.bel.size h.bel)⟩
theorem first_d (h : PQ w W lo hi g A cap gs 10 1 [{ newS hH with fails := 1, due := 21 }]) : Calls Tryz.prog 35 #[ptr g, .int .i64 0] W fun e w' => e = .returned (.int .i64 21) ∧ W = w' :=
  due_in h.pol 0 (by rw [h.pol.len]; decide)
end
set_option maxHeartbeats 16000000 in
set_option maxRecDepth 100000 in
theorem first14_any (w : World) (hT : Tabs w) : Calls Tryz.prog 25 #[] w fun e w' => e = .returned (.bool true) ∧ Below w.heap.size w w' := by
  have HT := Lib.hid (fun W (h : Below w.heap.size w W) => hT.below h)
  have hn1 := Lib.hid (new_any 10 [hH] (some ⟨w.heap.size, 0, none⟩) 1 (w.alloc (.cells (strs [hH]).toArray 9)) (HT.out _ (below_one w _)) ⟨Nat.le_refl _, by decide⟩ (rd_lit w [hH]) (fun s hs => by rw [List.mem_singleton.1 hs]; decide))
  have hn2 := Lib.hid (fun W (h : Below w.heap.size w W) => new_any 0 [] none 0 W (HT.out W h) ⟨Nat.le_refl _, by decide⟩ Rd.nil (fun s hs => by cases hs))
  have HW := Lib.hid hT
  clear hT
  go_enter Tryz.func25, Tryz.ntmps25
  go_upto_region 3 with (first | (go_at_call_of 26 (Value.int .i64 10); refine hn1.out.mono ?_; rintro e w1 ⟨_, h1, hb1⟩; obtain ⟨g, A, cap, gs, rfl, hp⟩ := h1 okNew_hH; have H0 := Lib.hid (show PQ w w1 _ w1.heap.size g A cap gs 10 0 [newS hH] from ⟨hp, Below.andThen (below_one w _) hb1, Nat.le_of_lt (by simp), fun s hs => by rw [List.mem_singleton.1 hs]; exact SOk.new hH_ok⟩); clear h1 hb1 hp) | (go_at_call_of 26 (Value.int .i64 0); refine (hn2.out _ H0.out.bel).mono ?_; rintro e w2 ⟨h1, _, hb1⟩; obtain rfl := h1 okNew_0; have H1 := Lib.hid (H0.out.call hb1); clear h1 hb1))
  clear hn1 hn2 H0
  unfold ptr at *
  go_upto_region 8 with (first | (go_at_call 30; refine (first_t1 H1.out).mono ?_; rintro e w3 ⟨⟨v, rfl, hv⟩, hq⟩; have H3 := Lib.hid hq; have HV := Lib.hid hv; clear hv hq) | (go_at_call 32; refine (first_h2 H4.out HW.out).mono ?_; rintro e w5 ⟨⟨v5, rfl⟩, hq, ho⟩; have H5 := Lib.hid hq; have HV5 := Lib.hid (HV4.out.only ho H1.out.pol.hB); clear hq ho) | (go_at_call 32; refine (first_h1 H3.out HW.out).mono ?_; rintro e w4 ⟨⟨v4, rfl⟩, hq, ho⟩; have H4 := Lib.hid hq; have HV4 := Lib.hid (HV.out.only ho H1.out.pol.hB); clear hq ho))
  obtain ⟨A1, c1, e1, hc1, hcm1, _⟩ := HV5.out.form
  subst e1
  obtain ⟨_, g1, hA1, _, _, hr1⟩ := HV5.out.at_ 0 ⟨0, hH, [], []⟩ rfl
  subst hA1
  have HR := Lib.hid hr1
  clear hr1 H1 H3 H4 HV HV4
  change _ ≤ c1 at hc1
  have hc1 : 1 ≤ c1 := hc1
  go_wp2_with (first | ((with_reducible refine atD 53 ?_); refine wpList_loadMA (by rfl) (.tmp 52) rfl g1 0 (by rfl) ⟨0, hH, [], []⟩ HR.out ?_) | ((with_reducible refine atD 54 ?_); refine wpList_valW (by rfl) (.agg (akc ⟨0, hH, [], []⟩).toArray) (by go_simp; rfl) ?_) | ((with_reducible refine atD 55 ?_); refine wpList_eqA (by rfl) (.tmp 53) (.tmp 54) _ rfl _ _ (by rfl) (by rfl) true (decide_eq_true rfl) ?_) | (go_at_call 35; refine (first_d H5.out).mono ?_; rintro e w6 ⟨rfl, rfl⟩) | (go_at_call 30; refine (first_t2 H5.out).mono ?_; rintro e w7 ⟨⟨B2, c2, rfl, hc2⟩, hb7⟩; have HB7 := Lib.hid hb7; clear hb7))
  go_ret
  exact ⟨rfl, HB7.out⟩
end Go.Proofs.YtcpkkaimingnlaaGreatDoor
end
section
namespace Go.Proofs.YtcpkkaimingnlaaGreatDoor
open Go.RowKit

theorem led_moved {s : Src} {st : Int} {loc : Bs} (h : moved.contains st = false) : ledP s st loc = none := by
  unfold ledP
  rw [if_neg (by rw [h]; rintro ⟨h, _⟩; cases h)]
end Go.Proofs.YtcpkkaimingnlaaGreatDoor
end
section
namespace Go.Proofs.YtcpkkaimingnlaaGreatDoor
open Go.RowKit

section
variable {w W : World} {lo hi g : Nat} {A : Option Addr} {cap : Nat} {gs : List Nat} {per now : Int} {ss : List Src}
theorem tickPQ (h : PQ w W lo hi g A cap gs per now ss) (hnow : 0 ≤ now ∧ now ≤ 1000000000) (hl : ss.length ≤ 1000) : Calls Tryz.prog 30 #[ptr g] W fun e w' => (∃ v, e = .returned v ∧ AOwn w' W.heap.size v (asksP (now + 1) 0 ss)) ∧ PQ w w' lo hi g A cap gs per (now + 1) (ss.map (tickP (now + 1))) ∧ Only lo hi W w' := by
  refine (tick_any h.pol hnow (by rw [h.pol.len]; exact hl)).mono ?_
  rintro e w' ⟨hv, hp, ho⟩
  exact ⟨hv, h.step hp ho (SOk.map h.ok _), ho⟩
theorem hearPQ (h : PQ w W lo hi g A cap gs per now ss) (hT : Tabs w) (hnow : 0 ≤ now ∧ now ≤ 1000000000) (hper : 1 ≤ per ∧ per ≤ 1048576) (i : Int) (a : Ans) (lb : Bs) (Ab : Option Addr) (cb : Nat) (hbd : a.body = .slice Ab lb.length cb)
    (hrd : ∀ W', Only lo hi W W' → Rd W' W'.heap.size 1 Ab lb.length (Lib.byteCells lb)) (hll : lb.length ≤ 1000000000) (hloc : a.loc.length ≤ 1000000) (het : a.etag.length ≤ 1000000) (hmo : a.mod.length ≤ 1000000) :
    Calls Tryz.prog 32 #[ptr g, .int .i64 i, .agg (acs a).toArray] W fun e w' =>
      HearQ lb (hearL per now ss i a lb.length) W e w' ∧ PQ w w' lo hi g A cap gs per now (hearL per now ss i a lb.length).1 ∧ Only lo hi W w' := by
  refine (hear_all h.pol i a lb Ab cb hbd hrd hll h.ok hper hnow hloc het hmo w hT h.bel h.le).mono ?_
  rintro e w' ⟨hv, hp, ho⟩
  exact ⟨hv, h.step hp ho (SOk.hearL h.ok per now i a lb.length), ho⟩
theorem duePQ (h : PQ w W lo hi g A cap gs per now ss) (i : Nat) (hi' : i < ss.length) : Calls Tryz.prog 35 #[ptr g, .int .i64 ((i : Nat) : Int)] W fun e w' => e = .returned (.int .i64 (ss.getD i default).due) ∧ W = w' := due_in h.pol i (by rw [h.pol.len]; exact hi')
theorem linkPQ (h : PQ w W lo hi g A cap gs per now ss) (i : Nat) (hi' : i < ss.length) : Calls Tryz.prog 36 #[ptr g, .int .i64 ((i : Nat) : Int)] W fun e w' => e = .returned (.string (bs (ss.getD i default).own)) ∧ W = w' := link_in h.pol i (by rw [h.pol.len]; exact hi')
theorem failsPQ (h : PQ w W lo hi g A cap gs per now ss) (i : Nat) (hi' : i < ss.length) : Calls Tryz.prog 37 #[ptr g, .int .i64 ((i : Nat) : Int)] W fun e w' => e = .returned (.int .i64 (ss.getD i default).fails) ∧ W = w' := fails_in h.pol i (by rw [h.pol.len]; exact hi')
end
theorem unit_mod (x m : Int) (h : 1 ≤ m) : 0 ≤ (IntKind.u64.wrap x).tmod m ∧ (IntKind.u64.wrap x).tmod m < m := by
  have h0 := wrap_u64_nonneg x
  exact ⟨Int.tmod_nonneg _ h0, Int.tmod_lt_of_pos _ (by omega)⟩
theorem unit_val (x m : Int) (h : 1 ≤ m ∧ m ≤ 1000) : wrap64 (1 + wrap64 ((IntKind.u64.wrap x).tmod m)) = 1 + (IntKind.u64.wrap x).tmod m := by
  have := unit_mod x m h.1
  rw [IntWalk.wrap64_in ((IntKind.u64.wrap x).tmod m) (by omega), IntWalk.wrap64_in _ (by omega)]
end Go.Proofs.YtcpkkaimingnlaaGreatDoor
end
