/-
  Texts of this seat, joined: Fsc, Ftq. Each says what it proves, ahead of itself.
-/
import Derived.Test.YtcpkkaimingnlaaGreatDoorFC
set_option linter.unusedVariables false
set_option linter.unusedSimpArgs false
section
namespace Go.Proofs.YtcpkkaimingnlaaGreatDoor
open Go.RowKit

/-- N + 1 ticks, then the answer a, of the body lb, to the source s. -/
structure Opn where
  n : Int
  s : Int
  a : Ans
  lb : Bs
instance : Inhabited Opn := ⟨⟨0, 0, ⟨false, 0, [], [], [], .slice none 0 0⟩, []⟩⟩
def opc (o : Opn) : List Value := .int .i64 o.n :: .int .i64 o.s :: acs o.a
/-- The body of an answer that came in. -/
def BodyRd (w : World) (a : Ans) (lb : Bs) : Prop := ∃ A c, a.body = .slice A lb.length c ∧ lb.length ≤ c ∧ c ≤ 9223372036854775807 ∧ Rd w w.heap.size 1 A lb.length (Lib.byteCells lb)
/-- A script that came in. -/
structure ScRd (w : World) (A : Option Addr) (os : List Opn) : Prop where
  cells : os = [] ∨ ∃ b off, A = some ⟨b, off, none⟩ ∧ b < w.heap.size ∧ ∀ i, i < os.length → ∀ k, k < 8 → w.cell? ⟨b, off + i * 8 + k, none⟩ = (opc (os.getD i default))[k]?
  body : ∀ o ∈ os, BodyRd w o.a o.lb
theorem info50 : (Tryz.prog.info? 50).map (·.size) = some 8 := by kernel_rfl
theorem ScRd.at_ {w W : World} {A : Option Addr} {os : List Opn} (h : ScRd w A os) (hb : Below w.heap.size w W) {j : Nat} {o : Opn} (hj : os[j]? = some o) :
    (∃ b off, A = some ⟨b, off, none⟩ ∧ W.rangeAt b (off + j * 8) (opc o)) ∧ BodyRd w o.a o.lb := by
  have hjl : j < os.length := (List.getElem?_eq_some_iff.1 hj).1
  have hg : os.getD j default = o := by rw [List.getD_eq_getElem?_getD, hj]; rfl
  refine ⟨?_, h.body o (List.mem_of_getElem? hj)⟩
  rcases h.cells with rfl | ⟨b, off, rfl, hlt, hc⟩
  · simp at hjl
  · refine ⟨b, off, rfl, fun i v hv => ?_⟩
    have hi : i < 8 := (List.getElem?_eq_some_iff.1 hv).1
    have := hc j hjl i hi
    rw [hg, hv] at this
    rw [← this]
    exact hb.cell (p := ⟨b, off + j * 8 + i, none⟩) hlt
theorem wpList_loadMO {ops : Array Oper} {rest : List Oper} {o : Oper} {a : Act} {w : World} {Q : Exit → Act → World → Prop} (hw : Region.wanted o (yielded ops a.tmps) = true) (x : Operand) (ho : o.op = .load 50 x) (g off : Nat) (hx : a.eval x = .pointer (some ⟨g, off, none⟩)) (k : Opn) (hr : w.rangeAt g off (opc k))
    (h : wpList Tryz.prog ops Q rest (a.put o.dst (.agg (opc k).toArray)) w) : wpList Tryz.prog ops Q (o :: rest) a w :=
  wpList_valW hw _ (by
    unfold execOp
    simp only [ho, hx, Sem.run_bind, Sem.run_pure, Result.andThen_ok, run_loadAt_mid (P := Tryz.prog) w g off 50 (opc k) _ hr Tryz.underlying50 rfl info50]) h
/-- A load of the answer within an operation's block. -/
theorem wpList_loadMW {ops : Array Oper} {rest : List Oper} {o : Oper} {a : Act} {w : World} {Q : Exit → Act → World → Prop} (hw : Region.wanted o (yielded ops a.tmps) = true) (x : Operand) (ho : o.op = .load 48 x) (g : Nat) (hx : a.eval x = .pointer (some ⟨g, 2, none⟩)) (n s : Int) (q : Ans) (lb : Bs) (hr : Blk w g 50 (opc ⟨n, s, q, lb⟩))
    (h : wpList Tryz.prog ops Q rest (a.put o.dst (.agg (acs q).toArray)) w) : wpList Tryz.prog ops Q (o :: rest) a w :=
  wpList_valW hw _ (by
    have h48 : w.rangeAt g 2 (acs q) := fun i v hv => (blk_cell hr (2 + i)).trans (by
      have : (opc ⟨n, s, q, lb⟩)[2 + i]? = (acs q)[i]? := by rw [Nat.add_comm]; rfl
      rw [this, hv])
    unfold execOp
    simp only [ho, hx, Sem.run_bind, Sem.run_pure, Result.andThen_ok, run_loadAt_mid (P := Tryz.prog) w g 2 48 (acs q) _ h48 Tryz.underlying48 rfl info48]) h
end Go.Proofs.YtcpkkaimingnlaaGreatDoor
end
section
namespace Go.Proofs.YtcpkkaimingnlaaGreatDoor
open Go.RowKit

def hK : Bs := [104, 116, 116, 112, 58, 47, 47, 105, 47]
theorem same_yes {l m : List Ask} {B1 B2 : Nat} {v1 v2 : Value} {w : World} (h1 : AOwn w B1 v1 l) (h2 : AOwn w B2 v2 m) (hlm : l = m) (hl : l.length ≤ 1000000) : Calls Tryz.prog 29 #[v1, v2] w fun e w' => e = .returned (.bool true) ∧ Below w.heap.size w w' := by
  have h := same_any l m B1 B2 v1 v2 w h1 h2 hl (by rw [← hlm]; exact hl)
  rw [decide_eq_true hlm] at h
  exact h
/-- Two pollers. -/
structure TQ (w W : World) (lo1 hi1 g1 : Nat) (A1 : Option Addr) (c1 : Nat) (gs1 : List Nat) (lo2 hi2 g2 : Nat) (A2 : Option Addr) (c2 : Nat) (gs2 : List Nat) (per na : Int) (sa : List Src) (nb : Int) (sb : List Src) : Prop where
  a : PQ w W lo1 hi1 g1 A1 c1 gs1 per na sa
  b : PQ w W lo2 hi2 g2 A2 c2 gs2 per nb sb
  ap : hi1 ≤ lo2
section
variable {w W W1 : World} {lo1 hi1 g1 : Nat} {A1 : Option Addr} {c1 : Nat} {gs1 : List Nat} {lo2 hi2 g2 : Nat} {A2 : Option Addr} {c2 : Nat} {gs2 : List Nat} {per na : Int} {sa : List Src} {nb : Int} {sb : List Src}
theorem TQ.call (h : TQ w W lo1 hi1 g1 A1 c1 gs1 lo2 hi2 g2 A2 c2 gs2 per na sa nb sb) (hb : Below W.heap.size W W1) : TQ w W1 lo1 hi1 g1 A1 c1 gs1 lo2 hi2 g2 A2 c2 gs2 per na sa nb sb := ⟨h.a.call hb, h.b.call hb, h.ap⟩
theorem TQ.lt (h : TQ w W lo1 hi1 g1 A1 c1 gs1 lo2 hi2 g2 A2 c2 gs2 per na sa nb sb) : lo1 ≤ lo2 ∧ hi1 ≤ hi2 ∧ hi2 ≤ W.heap.size := by
  have h1 := h.a.pol.glo
  have h2 := h.b.pol.glo
  have h3 := h.ap
  exact ⟨by omega, by omega, h.b.pol.hB⟩
theorem TQ.stepA (h : TQ w W lo1 hi1 g1 A1 c1 gs1 lo2 hi2 g2 A2 c2 gs2 per na sa nb sb) {na' : Int} {sa' : List Src} (hp : PQ w W1 lo1 hi1 g1 A1 c1 gs1 per na' sa') (ho : Only lo1 hi1 W W1) : TQ w W1 lo1 hi1 g1 A1 c1 gs1 lo2 hi2 g2 A2 c2 gs2 per na' sa' nb sb ∧ Only lo1 hi2 W W1 :=
  ⟨⟨hp, h.b.other hp.bel ho (.inr h.ap), h.ap⟩, ho.more (Nat.le_refl _) h.lt.2.1⟩
theorem TQ.stepB (h : TQ w W lo1 hi1 g1 A1 c1 gs1 lo2 hi2 g2 A2 c2 gs2 per na sa nb sb) {nb' : Int} {sb' : List Src} (hp : PQ w W1 lo2 hi2 g2 A2 c2 gs2 per nb' sb') (ho : Only lo2 hi2 W W1) : TQ w W1 lo1 hi1 g1 A1 c1 gs1 lo2 hi2 g2 A2 c2 gs2 per na sa nb' sb' ∧ Only lo1 hi2 W W1 :=
  ⟨⟨h.a.other hp.bel ho (.inl h.ap), hp, h.ap⟩, ho.more h.lt.1 (Nat.le_refl _)⟩
end
end Go.Proofs.YtcpkkaimingnlaaGreatDoor
end
