/-
  A poller and the document's, beside each other.
-/
import Derived.Test.YtcpkkaimingnlaaGreatDoorFD
import Derived.Test.YtcpkkaimingnlaaGreatDoorRri
import Derived.Test.YtcpkkaimingnlaaGreatDoorRnn
import Derived.Test.YtcpkkaimingnlaaGreatDoorRh8
set_option linter.unusedVariables false
set_option linter.unusedSimpArgs false
namespace Go.Proofs.YtcpkkaimingnlaaGreatDoor
open Go.RowKit

/-- Two pollers: the program's, and the document's; no list of the document's lies in the blocks from k to kk. -/
structure DQ (w W : World) (lo1 hi1 g1 : Nat) (A1 : Option Addr) (c1 : Nat) (gs1 : List Nat) (k kk lo2 hi2 g2 : Nat) (A2 : Option Addr) (c2 : Nat) (per na : Int) (ss : List Src) (nb : Int) (rs : List RSrc) : Prop where
  a : PQ w W lo1 hi1 g1 A1 c1 gs1 per na ss
  b : RPol W (fun b => hi2 ≤ b ∧ (b < k ∨ kk ≤ b)) lo2 hi2 g2 A2 c2 per nb rs
  ap : hi1 ≤ lo2
section
variable {w W W1 : World} {lo1 hi1 g1 : Nat} {A1 : Option Addr} {c1 : Nat} {gs1 : List Nat} {k kk lo2 hi2 g2 : Nat} {A2 : Option Addr} {c2 : Nat} {per na : Int} {ss : List Src} {nb : Int} {rs : List RSrc}
theorem DQ.lt (h : DQ w W lo1 hi1 g1 A1 c1 gs1 k kk lo2 hi2 g2 A2 c2 per na ss nb rs) : lo1 ≤ lo2 ∧ hi1 ≤ hi2 ∧ hi2 ≤ W.heap.size ∧ w.heap.size ≤ lo1 ∧ w.heap.size ≤ hi2 := by
  have h1 := h.a.pol.glo
  have h2 := h.b.glo
  have h3 := h.ap
  have h4 := h.a.le
  exact ⟨by omega, by omega, h.b.hB, h4, by omega⟩
theorem DQ.call (h : DQ w W lo1 hi1 g1 A1 c1 gs1 k kk lo2 hi2 g2 A2 c2 per na ss nb rs) (hb : Below W.heap.size W W1) : DQ w W1 lo1 hi1 g1 A1 c1 gs1 k kk lo2 hi2 g2 A2 c2 per na ss nb rs := ⟨h.a.call hb, h.b.call hb, h.ap⟩
theorem DQ.drew (h : DQ w W lo1 hi1 g1 A1 c1 gs1 k kk lo2 hi2 g2 A2 c2 per na ss nb rs) : DQ w W.drew lo1 hi1 g1 A1 c1 gs1 k kk lo2 hi2 g2 A2 c2 per na ss nb rs := ⟨h.a.drew, h.b.drew, h.ap⟩
theorem DQ.drewN (h : DQ w W lo1 hi1 g1 A1 c1 gs1 k kk lo2 hi2 g2 A2 c2 per na ss nb rs) (n : Nat) : DQ w (W.drewN n) lo1 hi1 g1 A1 c1 gs1 k kk lo2 hi2 g2 A2 c2 per na ss nb rs := ⟨h.a.drewN n, h.b.drewN n, h.ap⟩
/-- Other blocks are kept apart: some that are not laid yet. -/
theorem DQ.apart (h : DQ w W lo1 hi1 g1 A1 c1 gs1 k kk lo2 hi2 g2 A2 c2 per na ss nb rs) (k' kk' : Nat) (hk : W.heap.size ≤ k') : DQ w W lo1 hi1 g1 A1 c1 gs1 k' kk' lo2 hi2 g2 A2 c2 per na ss nb rs :=
  ⟨h.a, h.b.more (fun b hb hp => ⟨hp.1, .inl (by omega)⟩) (fun b hp => hp.1), h.ap⟩
/-- A block that is kept apart turns. -/
theorem DQ.far (h : DQ w W lo1 hi1 g1 A1 c1 gs1 k kk lo2 hi2 g2 A2 c2 per na ss nb rs) {x : Nat} (ht : Turned W W1 x) (hx : k ≤ x ∧ x < kk) (hk : hi2 ≤ k) : DQ w W1 lo1 hi1 g1 A1 c1 gs1 k kk lo2 hi2 g2 A2 c2 per na ss nb rs := by
  have ho : Only x (x + 1) W W1 := Only.of_turned ht (Nat.le_refl _) (Nat.lt_succ_self _)
  have hl := h.lt
  exact ⟨h.a.other (ht.below _ _ (by omega) h.a.bel) ho (.inl (by omega)), h.b.keep ho (.inl (by omega)) (fun b hb => by have := hb.2; omega), h.ap⟩
theorem DQ.stepA (h : DQ w W lo1 hi1 g1 A1 c1 gs1 k kk lo2 hi2 g2 A2 c2 per na ss nb rs) {na' : Int} {ss' : List Src} (hp : PQ w W1 lo1 hi1 g1 A1 c1 gs1 per na' ss') (ho : Only lo1 hi1 W W1) : DQ w W1 lo1 hi1 g1 A1 c1 gs1 k kk lo2 hi2 g2 A2 c2 per na' ss' nb rs ∧ Only lo1 hi2 W W1 :=
  ⟨⟨hp, h.b.keep ho (.inr h.ap) (fun b hb => .inr (Nat.le_trans h.lt.2.1 hb.1)), h.ap⟩, ho.more (Nat.le_refl _) h.lt.2.1⟩
theorem DQ.stepB (h : DQ w W lo1 hi1 g1 A1 c1 gs1 k kk lo2 hi2 g2 A2 c2 per na ss nb rs) {P : Nat → Prop} {nb' : Int} {rs' : List RSrc} (hp : RPol W1 P lo2 hi2 g2 A2 c2 per nb' rs') (hP : ∀ b, P b → hi2 ≤ b ∧ (b < k ∨ kk ≤ b)) (ho : Only lo2 hi2 W W1) : DQ w W1 lo1 hi1 g1 A1 c1 gs1 k kk lo2 hi2 g2 A2 c2 per na ss nb' rs' ∧ Only lo1 hi2 W W1 :=
  ⟨⟨h.a.other (ho.below (Nat.le_trans h.lt.2.2.2.1 h.lt.1) h.a.bel.size h.a.bel) ho (.inl h.ap), hp.more (fun b _ hb => hP b hb) (fun b hb => hb.1), h.ap⟩, ho.more h.lt.1 (Nat.le_refl _)⟩
theorem tickDA (h : DQ w W lo1 hi1 g1 A1 c1 gs1 k kk lo2 hi2 g2 A2 c2 per na ss nb rs) (hnow : 0 ≤ na ∧ na ≤ 1000000000) (hl : ss.length ≤ 1000) : Calls Tryz.prog 30 #[ptr g1] W fun e w' => (∃ v, e = .returned v ∧ AOwn w' W.heap.size v (asksP (na + 1) 0 ss)) ∧ DQ w w' lo1 hi1 g1 A1 c1 gs1 k kk lo2 hi2 g2 A2 c2 per (na + 1) (ss.map (tickP (na + 1))) nb rs ∧ Only lo1 hi2 W w' :=
  (tickPQ h.a hnow hl).mono fun _ _ ⟨hv, hp, ho⟩ => ⟨hv, h.stepA hp ho⟩
theorem tickDB (h : DQ w W lo1 hi1 g1 A1 c1 gs1 k kk lo2 hi2 g2 A2 c2 per na ss nb rs) (hnow : 0 ≤ nb ∧ nb ≤ 1000000000) (hl : rs.length ≤ 1000) : Calls Tryz.prog 31 #[ptr g2] W fun e w' => (∃ v, e = .returned v ∧ AOwn w' W.heap.size v (asksP (nb + 1) 0 (rs.map toS))) ∧ DQ w w' lo1 hi1 g1 A1 c1 gs1 k kk lo2 hi2 g2 A2 c2 per na ss (nb + 1) (rs.map (rtickP (nb + 1))) ∧ Only lo1 hi2 W w' := by
  have h1 : RPol W (fun b => (hi2 ≤ b ∧ (b < k ∨ kk ≤ b)) ∧ b < W.heap.size) lo2 hi2 g2 A2 c2 per nb rs := h.b.more (fun b hb hp => ⟨hp, hb⟩) (fun b hp => hp.1.1)
  refine (rtick_any h1 (fun b hb => hb.2) hnow hl).mono ?_
  rintro e w' ⟨hv, hp, ho⟩
  exact ⟨hv, h.stepB hp (fun b hb => hb.1) ho⟩
theorem hearDA (h : DQ w W lo1 hi1 g1 A1 c1 gs1 k kk lo2 hi2 g2 A2 c2 per na ss nb rs) (hT : Tabs w) (hnow : 0 ≤ na ∧ na ≤ 1000000000) (hper : 1 ≤ per ∧ per ≤ 1048576) (i : Int) (a : Ans) (lb : Bs) (Ab : Option Addr) (cb : Nat) (hbd : a.body = .slice Ab lb.length cb)
    (hrd : ∀ W', Only lo1 hi1 W W' → Rd W' W'.heap.size 1 Ab lb.length (Lib.byteCells lb)) (hll : lb.length ≤ 1000000000) (hloc : a.loc.length ≤ 1000000) (het : a.etag.length ≤ 1000000) (hmo : a.mod.length ≤ 1000000) :
    Calls Tryz.prog 32 #[ptr g1, .int .i64 i, .agg (acs a).toArray] W fun e w' => HearQ lb (hearL per na ss i a lb.length) W e w' ∧ DQ w w' lo1 hi1 g1 A1 c1 gs1 k kk lo2 hi2 g2 A2 c2 per na (hearL per na ss i a lb.length).1 nb rs ∧ Only lo1 hi2 W w' :=
  (hearPQ h.a hT hnow hper i a lb Ab cb hbd hrd hll hloc het hmo).mono fun _ _ ⟨hv, hp, ho⟩ => ⟨hv, h.stepA hp ho⟩
theorem hearDB (h : DQ w W lo1 hi1 g1 A1 c1 gs1 k kk lo2 hi2 g2 A2 c2 per na ss nb rs) (hk : kk ≤ W.heap.size) (hok : ∀ r ∈ rs, SOk (toS r)) (hnow : 0 ≤ nb ∧ nb ≤ 1000000000) (hper : 1 ≤ per ∧ per ≤ 1048576) (i : Int) (a : Ans) (lb : Bs) (Ab : Option Addr) (cb : Nat) (hbd : a.body = .slice Ab lb.length cb)
    (hll : lb.length ≤ 1000000000) (hloc : a.loc.length ≤ 1000000) (het : a.etag.length ≤ 1000000) (hmo : a.mod.length ≤ 1000000) :
    Calls Tryz.prog 33 #[ptr g2, .int .i64 i, .agg (acs a).toArray] W fun e w' =>
      ∃ rs', e = .returned (.tuple #[.bool (hearL per nb (rs.map toS) i a lb.length).2.1, .int .i64 (hearL per nb (rs.map toS) i a lb.length).2.2]) ∧ rs'.map toS = (hearL per nb (rs.map toS) i a lb.length).1 ∧
        DQ w w' lo1 hi1 g1 A1 c1 gs1 k kk lo2 hi2 g2 A2 c2 per na ss nb rs' ∧ Only lo1 hi2 W w' := by
  refine (rhear_all h.b i a lb Ab cb hbd hll hok hper hnow hloc het hmo).mono ?_
  rintro e w' ⟨rs', he, hm, hp, ho⟩
  have hB := h.b.hB
  exact ⟨rs', he, hm, h.stepB hp (fun b hb => hb.elim id (fun hb => ⟨by omega, .inr (by omega)⟩)) ho⟩
end
theorem own_only {lo hi : Nat} {w w' : World} {B size n : Nat} {e : TypeId} {v : Value} {xs : List Value} (h : w.ownsRow B e size v n xs) (ho : Only lo hi w w') (hB : hi ≤ B) : w'.ownsRow B e size v n xs := by
  refine ⟨h.1, ?_⟩
  rcases h.2 with hn | ⟨g1, cap, cur, rfl, h1, h2, r⟩
  · exact .inl hn
  · exact .inr ⟨g1, cap, cur, rfl, h1, by rw [ho.block g1 (Array.getElem?_eq_some_iff.1 h2).1 (by omega)]; exact h2, r⟩
theorem cell_on2 {W : World} {a : Addr} {v : Value} (h : W.cell? a = some v) (o : Obj) : (W.alloc o).cell? a = some v := by
  rw [World.cell?_alloc_some W a o (by rw [h]; rfl)]; exact h
theorem info46 : (Tryz.prog.info? 46).map (·.size) = some 1 := by kernel_rfl
theorem own_empty5 (w : World) (B : Nat) (hB : B ≤ w.heap.size) : (w.alloc (.cells #[] 5)).ownsRow B 5 1 (.slice (some ⟨w.heap.size, 0, none⟩) 0 0) 0 [] :=
  ⟨rfl, .inr ⟨w.heap.size, 0, #[], rfl, hB, heap_alloc_new w _, Nat.le_refl _, Nat.zero_le _, rfl, rfl⟩⟩
/-- The block of an answer's copied body. -/
theorem copy_block {w' : World} {s : Nat} {A : Option Addr} {c : Nat} {lb : Bs} (h : w'.ownsRow s 5 1 (.slice A lb.length c) lb.length (Lib.byteCells lb)) (hs : s < w'.heap.size) : ∃ k, s ≤ k ∧ k < w'.heap.size ∧ (lb = [] ∨ A = some ⟨k, 0, none⟩) := by
  rcases Nat.eq_zero_or_pos lb.length with h0 | h0
  · exact ⟨s, Nat.le_refl _, hs, .inl (List.length_eq_zero_iff.1 h0)⟩
  · obtain ⟨g, hg, h1, h2⟩ := own_some h h0
    exact ⟨g, h1, h2, .inr hg⟩
theorem hearL_body (per now : Int) (ss : List Src) (i : Int) (lost : Bool) (st : Int) (loc et mo : Bs) (b b' : Value) (n : Nat) : hearL per now ss i ⟨lost, st, loc, et, mo, b⟩ n = hearL per now ss i ⟨lost, st, loc, et, mo, b'⟩ n := rfl
end Go.Proofs.YtcpkkaimingnlaaGreatDoor
