/-
  Texts of this seat, joined: Fsc, Ftq. Each says what it proves, ahead of itself.
-/
import Derived.Test.YtcpkkaimingnlaaGreatDoorFC
set_option linter.unusedVariables false
set_option linter.unusedSimpArgs false
section
/-
  A script of operations, in memory.
-/
namespace Go.Proofs.YtcpkkaimingnlaaGreatDoor
open Go.RowKit

/-- N + 1 ticks, then the answer a, of the body lb, to the source s. -/
structure Opn where
  n : Int
  s : Int
  a : Ans
  lb : Bs
instance : Inhabited Opn := ⟨⟨0, 0, ⟨false, 0, [], [], [], .slice none 0 0⟩, []⟩⟩
def opc (o : Opn) : List Value := .int .i64 o.n :: .int .i64 o.s :: acs o.a
/-- The body of an answer that came in. -/
def BodyRd (w : World) (a : Ans) (lb : Bs) : Prop := ∃ A c, a.body = .slice A lb.length c ∧ lb.length ≤ c ∧ c ≤ 9223372036854775807 ∧ Rd w w.heap.size 1 A lb.length (Lib.byteCells lb)
/-- A script that came in. -/
structure ScRd (w : World) (A : Option Addr) (os : List Opn) : Prop where
  cells : os = [] ∨ ∃ b off, A = some ⟨b, off, none⟩ ∧ b < w.heap.size ∧ ∀ i, i < os.length → ∀ k, k < 8 → w.cell? ⟨b, off + i * 8 + k, none⟩ = (opc (os.getD i default))[k]?
  body : ∀ o ∈ os, BodyRd w o.a o.lb
theorem info50 : (Tryz.prog.info? 50).map (·.size) = some 8 := by kernel_rfl
theorem ScRd.at_ {w W : World} {A : Option Addr} {os : List Opn} (h : ScRd w A os) (hb : Below w.heap.size w W) {j : Nat} {o : Opn} (hj : os[j]? = some o) :
    (∃ b off, A = some ⟨b, off, none⟩ ∧ W.rangeAt b (off + j * 8) (opc o)) ∧ BodyRd w o.a o.lb := by
  have hjl : j < os.length := (List.getElem?_eq_some_iff.1 hj).1
  have hg : os.getD j default = o := by rw [List.getD_eq_getElem?_getD, hj]; rfl
  refine ⟨?_, h.body o (List.mem_of_getElem? hj)⟩
  rcases h.cells with rfl | ⟨b, off, rfl, hlt, hc⟩
  · simp at hjl
  · refine ⟨b, off, rfl, fun i v hv => ?_⟩
    have hi : i < 8 := (List.getElem?_eq_some_iff.1 hv).1
    have := hc j hjl i hi
    rw [hg, hv] at this
    rw [← this]
    exact hb.cell (p := ⟨b, off + j * 8 + i, none⟩) hlt
theorem wpList_loadMO {ops : Array Oper} {rest : List Oper} {o : Oper} {a : Act} {w : World} {Q : Exit → Act → World → Prop} (hw : Region.wanted o (yielded ops a.tmps) = true) (x : Operand) (ho : o.op = .load 50 x) (g off : Nat) (hx : a.eval x = .pointer (some ⟨g, off, none⟩)) (k : Opn) (hr : w.rangeAt g off (opc k))
    (h : wpList Tryz.prog ops Q rest (a.put o.dst (.agg (opc k).toArray)) w) : wpList Tryz.prog ops Q (o :: rest) a w :=
  wpList_valW hw _ (by
    unfold execOp
    simp only [ho, hx, Sem.run_bind, Sem.run_pure, Result.andThen_ok, run_loadAt_mid (P := Tryz.prog) w g off 50 (opc k) _ hr Tryz.underlying50 rfl info50]) h
/-- A load of the answer within an operation's block. -/
theorem wpList_loadMW {ops : Array Oper} {rest : List Oper} {o : Oper} {a : Act} {w : World} {Q : Exit → Act → World → Prop} (hw : Region.wanted o (yielded ops a.tmps) = true) (x : Operand) (ho : o.op = .load 48 x) (g : Nat) (hx : a.eval x = .pointer (some ⟨g, 2, none⟩)) (n s : Int) (q : Ans) (lb : Bs) (hr : Blk w g 50 (opc ⟨n, s, q, lb⟩))
    (h : wpList Tryz.prog ops Q rest (a.put o.dst (.agg (acs q).toArray)) w) : wpList Tryz.prog ops Q (o :: rest) a w :=
  wpList_valW hw _ (by
    have h48 : w.rangeAt g 2 (acs q) := fun i v hv => (blk_cell hr (2 + i)).trans (by
      have : (opc ⟨n, s, q, lb⟩)[2 + i]? = (acs q)[i]? := by rw [Nat.add_comm]; rfl
      rw [this, hv])
    unfold execOp
    simp only [ho, hx, Sem.run_bind, Sem.run_pure, Result.andThen_ok, run_loadAt_mid (P := Tryz.prog) w g 2 48 (acs q) _ h48 Tryz.underlying48 rfl info48]) h
end Go.Proofs.YtcpkkaimingnlaaGreatDoor
end
section
/-
  Two pollers beside each other; a source beside others is as it would be alone (plain).
-/
namespace Go.Proofs.YtcpkkaimingnlaaGreatDoor
open Go.RowKit

def hK : Bs := [104, 116, 116, 112, 58, 47, 47, 105, 47]
theorem hK_ok : (parseP hK).isSome = true := by kernel_rfl
theorem hK_two (s : Bs) (hs : s ∈ [hH, hK]) : s.length ≤ 9223372036854775807 ∧ (parseP s).isSome = true := by
  rcases List.mem_cons.1 hs with rfl | hs
  · exact ⟨by decide, hH_ok⟩
  · rw [List.mem_singleton.1 hs]
    exact ⟨by decide, hK_ok⟩
theorem hK_one (s : Bs) (hs : s ∈ [hK]) : s.length ≤ 9223372036854775807 ∧ (parseP s).isSome = true := by
  rw [List.mem_singleton.1 hs]
  exact ⟨by decide, hK_ok⟩
theorem okNew_HK (n : Int) (h : 1 ≤ n ∧ n ≤ 1048576) : okNew n [hH, hK] = true := by
  unfold okNew
  rw [decide_eq_true h.1, decide_eq_true h.2]
  have : ([hH, hK].all fun s => (parseP s).isSome) = true := by rw [List.all_cons, List.all_cons, hH_ok, hK_ok]; rfl
  rw [this]; rfl
theorem okNew_K (n : Int) (h : 1 ≤ n ∧ n ≤ 1048576) : okNew n [hK] = true := by
  unfold okNew
  rw [decide_eq_true h.1, decide_eq_true h.2]
  have : ([hK].all fun s => (parseP s).isSome) = true := by rw [List.all_cons, hK_ok]; rfl
  rw [this]; rfl
/-- The asks of source 1, as those of source 0. -/
def one0 (l : List Ask) : List Ask := (l.filter fun k => decide (k.src = 1)).map fun k => { k with src := 0 }
theorem one0_snoc {l : List Ask} {j : Nat} {k : Ask} (h : l[j]? = some k) : one0 (l.take (j + 1)) = one0 (l.take j) ++ (if k.src = 1 then [{ k with src := 0 }] else []) := by
  rw [List.take_add_one, h]
  unfold one0
  rw [List.filter_append, List.map_append]
  congr 1
  by_cases hk : k.src = 1 <;> simp [hk]
theorem one0_len (l : List Ask) : (one0 l).length ≤ l.length := by
  unfold one0
  rw [List.length_map]
  exact List.length_filter_le ..
theorem one0_asks (t : Int) (s0 s1 : Src) : one0 (asksP t 0 [s0, s1]) = asksP t 0 [s1] := by
  have e0 : (askP 0 s0).src = 0 := by unfold askP; split <;> rfl
  have e1 : (askP 1 s1).src = 1 := by unfold askP; split <;> rfl
  have e2 : ({ askP 1 s1 with src := 0 } : Ask) = askP 0 s1 := by unfold askP; split <;> rfl
  unfold asksP asksP asksP one0
  cases dueP t s0 <;> cases dueP t s1 <;> simp [e0, e1, e2]
/-- An answer to source 1, and to the same source alone. -/
theorem hear_one (per now : Int) (s0 s1 : Src) (a : Ans) (n : Nat) : ∃ s1' tk er, hearL per now [s0, s1] 1 a n = ([s0, s1'], tk, er) ∧ hearL per now [s1] 0 a n = ([s1'], tk, er) := by
  cases ho : s1.out with
  | true =>
    refine ⟨(hearA per now s1 a n).1, (hearA per now s1 a n).2, 0, ?_, ?_⟩
    · unfold hearL
      rw [if_pos]
      · rfl
      · exact ⟨by decide, by show (1 : Int) < 2; decide, ho⟩
    · unfold hearL
      rw [if_pos]
      · rfl
      · exact ⟨by decide, by show (0 : Int) < 1; decide, ho⟩
  | false =>
    refine ⟨s1, false, 60, ?_, ?_⟩
    · unfold hearL
      rw [if_neg]
      rintro ⟨_, _, h⟩
      have : s1.out = true := h
      rw [ho] at this; cases this
    · unfold hearL
      rw [if_neg]
      rintro ⟨_, _, h⟩
      have : s1.out = true := h
      rw [ho] at this; cases this
theorem hear_other (per now : Int) (s0 s1 : Src) (a : Ans) (n : Nat) : ∃ s0' tk er, hearL per now [s0, s1] 0 a n = ([s0', s1], tk, er) := by
  unfold hearL
  split
  · exact ⟨_, _, _, rfl⟩
  · exact ⟨_, _, _, rfl⟩
theorem same_yes {l m : List Ask} {B1 B2 : Nat} {v1 v2 : Value} {w : World} (h1 : AOwn w B1 v1 l) (h2 : AOwn w B2 v2 m) (hlm : l = m) (hl : l.length ≤ 1000000) : Calls Tryz.prog 29 #[v1, v2] w fun e w' => e = .returned (.bool true) ∧ Below w.heap.size w w' := by
  have h := same_any l m B1 B2 v1 v2 w h1 h2 hl (by rw [← hlm]; exact hl)
  rw [decide_eq_true hlm] at h
  exact h
/-- Two pollers. -/
structure TQ (w W : World) (lo1 hi1 g1 : Nat) (A1 : Option Addr) (c1 : Nat) (gs1 : List Nat) (lo2 hi2 g2 : Nat) (A2 : Option Addr) (c2 : Nat) (gs2 : List Nat) (per na : Int) (sa : List Src) (nb : Int) (sb : List Src) : Prop where
  a : PQ w W lo1 hi1 g1 A1 c1 gs1 per na sa
  b : PQ w W lo2 hi2 g2 A2 c2 gs2 per nb sb
  ap : hi1 ≤ lo2
section
variable {w W W1 : World} {lo1 hi1 g1 : Nat} {A1 : Option Addr} {c1 : Nat} {gs1 : List Nat} {lo2 hi2 g2 : Nat} {A2 : Option Addr} {c2 : Nat} {gs2 : List Nat} {per na : Int} {sa : List Src} {nb : Int} {sb : List Src}
theorem TQ.call (h : TQ w W lo1 hi1 g1 A1 c1 gs1 lo2 hi2 g2 A2 c2 gs2 per na sa nb sb) (hb : Below W.heap.size W W1) : TQ w W1 lo1 hi1 g1 A1 c1 gs1 lo2 hi2 g2 A2 c2 gs2 per na sa nb sb := ⟨h.a.call hb, h.b.call hb, h.ap⟩
theorem TQ.lt (h : TQ w W lo1 hi1 g1 A1 c1 gs1 lo2 hi2 g2 A2 c2 gs2 per na sa nb sb) : lo1 ≤ lo2 ∧ hi1 ≤ hi2 ∧ hi2 ≤ W.heap.size := by
  have h1 := h.a.pol.glo
  have h2 := h.b.pol.glo
  have h3 := h.ap
  exact ⟨by omega, by omega, h.b.pol.hB⟩
theorem TQ.stepA (h : TQ w W lo1 hi1 g1 A1 c1 gs1 lo2 hi2 g2 A2 c2 gs2 per na sa nb sb) {na' : Int} {sa' : List Src} (hp : PQ w W1 lo1 hi1 g1 A1 c1 gs1 per na' sa') (ho : Only lo1 hi1 W W1) : TQ w W1 lo1 hi1 g1 A1 c1 gs1 lo2 hi2 g2 A2 c2 gs2 per na' sa' nb sb ∧ Only lo1 hi2 W W1 :=
  ⟨⟨hp, h.b.other hp.bel ho (.inr h.ap), h.ap⟩, ho.more (Nat.le_refl _) h.lt.2.1⟩
theorem TQ.stepB (h : TQ w W lo1 hi1 g1 A1 c1 gs1 lo2 hi2 g2 A2 c2 gs2 per na sa nb sb) {nb' : Int} {sb' : List Src} (hp : PQ w W1 lo2 hi2 g2 A2 c2 gs2 per nb' sb') (ho : Only lo2 hi2 W W1) : TQ w W1 lo1 hi1 g1 A1 c1 gs1 lo2 hi2 g2 A2 c2 gs2 per na sa nb' sb' ∧ Only lo1 hi2 W W1 :=
  ⟨⟨h.a.other hp.bel ho (.inl h.ap), hp, h.ap⟩, ho.more h.lt.1 (Nat.le_refl _)⟩
theorem tickTA (h : TQ w W lo1 hi1 g1 A1 c1 gs1 lo2 hi2 g2 A2 c2 gs2 per na sa nb sb) (hnow : 0 ≤ na ∧ na ≤ 1000000000) (hl : sa.length ≤ 1000) : Calls Tryz.prog 30 #[ptr g1] W fun e w' => (∃ v, e = .returned v ∧ AOwn w' W.heap.size v (asksP (na + 1) 0 sa)) ∧ TQ w w' lo1 hi1 g1 A1 c1 gs1 lo2 hi2 g2 A2 c2 gs2 per (na + 1) (sa.map (tickP (na + 1))) nb sb ∧ Only lo1 hi2 W w' :=
  (tickPQ h.a hnow hl).mono fun _ _ ⟨hv, hp, ho⟩ => ⟨hv, h.stepA hp ho⟩
theorem tickTB (h : TQ w W lo1 hi1 g1 A1 c1 gs1 lo2 hi2 g2 A2 c2 gs2 per na sa nb sb) (hnow : 0 ≤ nb ∧ nb ≤ 1000000000) (hl : sb.length ≤ 1000) : Calls Tryz.prog 30 #[ptr g2] W fun e w' => (∃ v, e = .returned v ∧ AOwn w' W.heap.size v (asksP (nb + 1) 0 sb)) ∧ TQ w w' lo1 hi1 g1 A1 c1 gs1 lo2 hi2 g2 A2 c2 gs2 per na sa (nb + 1) (sb.map (tickP (nb + 1))) ∧ Only lo1 hi2 W w' :=
  (tickPQ h.b hnow hl).mono fun _ _ ⟨hv, hp, ho⟩ => ⟨hv, h.stepB hp ho⟩
theorem hearTA (h : TQ w W lo1 hi1 g1 A1 c1 gs1 lo2 hi2 g2 A2 c2 gs2 per na sa nb sb) (hT : Tabs w) (hnow : 0 ≤ na ∧ na ≤ 1000000000) (hper : 1 ≤ per ∧ per ≤ 1048576) (i : Int) (a : Ans) (lb : Bs) (hbd : BodyRd w a lb) (hll : lb.length ≤ 1000000000) (hloc : a.loc.length ≤ 1000000) (het : a.etag.length ≤ 1000000) (hmo : a.mod.length ≤ 1000000)
    (sa' : List Src) (tk : Bool) (er : Int) (hR : hearL per na sa i a lb.length = (sa', tk, er)) :
    Calls Tryz.prog 32 #[ptr g1, .int .i64 i, .agg (acs a).toArray] W fun e w' => (∃ v, e = .returned (.tuple #[v, .bool tk, .int .i64 er])) ∧ TQ w w' lo1 hi1 g1 A1 c1 gs1 lo2 hi2 g2 A2 c2 gs2 per na sa' nb sb ∧ Only lo1 hi2 W w' := by
  obtain ⟨A, c, hb, _, _, hr⟩ := hbd
  have hh := hearPQ h.a hT hnow hper i a lb A c hb (fun W' hW' => by
    have hbl := hW'.below h.a.le h.a.bel.size h.a.bel
    exact (hr.keep hbl).more hbl.size) hll hloc het hmo
  rw [hR] at hh
  exact hh.mono fun _ _ ⟨⟨v, he, _, _⟩, hp, ho⟩ => ⟨⟨v, he⟩, h.stepA hp ho⟩
theorem hearTB (h : TQ w W lo1 hi1 g1 A1 c1 gs1 lo2 hi2 g2 A2 c2 gs2 per na sa nb sb) (hT : Tabs w) (hnow : 0 ≤ nb ∧ nb ≤ 1000000000) (hper : 1 ≤ per ∧ per ≤ 1048576) (i : Int) (a : Ans) (lb : Bs) (hbd : BodyRd w a lb) (hll : lb.length ≤ 1000000000) (hloc : a.loc.length ≤ 1000000) (het : a.etag.length ≤ 1000000) (hmo : a.mod.length ≤ 1000000)
    (sb' : List Src) (tk : Bool) (er : Int) (hR : hearL per nb sb i a lb.length = (sb', tk, er)) :
    Calls Tryz.prog 32 #[ptr g2, .int .i64 i, .agg (acs a).toArray] W fun e w' => (∃ v, e = .returned (.tuple #[v, .bool tk, .int .i64 er])) ∧ TQ w w' lo1 hi1 g1 A1 c1 gs1 lo2 hi2 g2 A2 c2 gs2 per na sa nb sb' ∧ Only lo1 hi2 W w' := by
  obtain ⟨A, c, hb, _, _, hr⟩ := hbd
  have hh := hearPQ h.b hT hnow hper i a lb A c hb (fun W' hW' => by
    have hbl := hW'.below h.b.le h.b.bel.size h.b.bel
    exact (hr.keep hbl).more hbl.size) hll hloc het hmo
  rw [hR] at hh
  exact hh.mono fun _ _ ⟨⟨v, he, _, _⟩, hp, ho⟩ => ⟨⟨v, he⟩, h.stepB hp ho⟩
end
end Go.Proofs.YtcpkkaimingnlaaGreatDoor
end
