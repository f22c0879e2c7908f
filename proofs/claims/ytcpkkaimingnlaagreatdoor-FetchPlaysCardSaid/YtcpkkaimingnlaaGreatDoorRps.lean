/-
  The document's poller, in memory.
-/
import Derived.Test.YtcpkkaimingnlaaGreatDoorFA
set_option linter.unusedVariables false
set_option linter.unusedSimpArgs false
namespace Go.Proofs.YtcpkkaimingnlaaGreatDoor
open Go.RowKit

/-- A source of the document. -/
structure RSrc where
  own : Bs
  ledA : Option Addr
  ledC : Nat
  led : List Bs
  lasting : Bool
  due : Int
  fails : Int
  etag : Bs
  mod : Bs
  out : Bool
instance : Inhabited RSrc := ⟨⟨[], none, 0, [], false, 0, 0, [], [], false⟩⟩
def rcs (r : RSrc) : List Value := [.string (bs r.own), .slice r.ledA r.led.length r.ledC, .bool r.lasting, .int .i64 r.due, .int .i64 r.fails, .string (bs r.etag), .string (bs r.mod), .bool r.out]
theorem rcs_len (r : RSrc) : (rcs r).length = 8 := rfl
/-- The links that a source was led to are read; their block is one of P. -/
structure LedRd (W : World) (P : Nat → Prop) (r : RSrc) : Prop where
  at' : r.led = [] ∨ ∃ b, r.ledA = some ⟨b, 0, none⟩ ∧ P b ∧ b < W.heap.size ∧ ∀ j, j < r.led.length → W.cell? ⟨b, j, none⟩ = some (.string (bs (r.led.getD j [])))
  cap : r.led.length ≤ r.ledC ∧ r.ledC ≤ 9223372036854775807
section
variable {W W1 : World} {P P1 : Nat → Prop} {r : RSrc} {lo hi : Nat}
theorem LedRd.nil (h : r.led = []) (hc : r.ledC ≤ 9223372036854775807) : LedRd W P r := ⟨.inl h, by rw [h]; exact ⟨Nat.zero_le _, hc⟩⟩
theorem LedRd.more (h : LedRd W P r) (hp : ∀ b, b < W.heap.size → P b → P1 b) : LedRd W P1 r := by
  refine ⟨?_, h.cap⟩
  rcases h.at' with h | ⟨b, e, h1, h2, h3⟩
  · exact .inl h
  · exact .inr ⟨b, e, hp b h2 h1, h2, h3⟩
theorem LedRd.only (h : LedRd W P r) (ho : Only lo hi W W1) (hp : ∀ b, P b → b < lo ∨ hi ≤ b) : LedRd W1 P r := by
  refine ⟨?_, h.cap⟩
  rcases h.at' with h | ⟨b, e, h1, h2, h3⟩
  · exact .inl h
  · refine .inr ⟨b, e, h1, Nat.lt_of_lt_of_le h2 ho.size, fun j hj => ?_⟩
    exact (World.cell?_of_block (a := ⟨b, j, none⟩) (heap_only ho h2 (hp b h1))).trans (h3 j hj)
theorem LedRd.call (h : LedRd W P r) (hb : Below W.heap.size W W1) : LedRd W1 P r := by
  refine ⟨?_, h.cap⟩
  rcases h.at' with h | ⟨b, e, h1, h2, h3⟩
  · exact .inl h
  · exact .inr ⟨b, e, h1, Nat.lt_of_lt_of_le h2 hb.size, fun j hj => (hb.cell (p := ⟨b, j, none⟩) h2).trans (h3 j hj)⟩
theorem LedRd.drew (h : LedRd W P r) : LedRd W.drew P r := ⟨h.at', h.cap⟩
theorem LedRd.drewN (h : LedRd W P r) (n : Nat) : LedRd (W.drewN n) P r := ⟨h.at', h.cap⟩
theorem LedRd.like {r' : RSrc} (h : LedRd W P r) (h1 : r'.led = r.led) (h2 : r'.ledA = r.ledA) (h3 : r'.ledC = r.ledC) : LedRd W P r' := ⟨by rw [h1, h2]; exact h.at', by rw [h1, h3]; exact h.cap⟩
end
/-- A poller of the document: at block g, its sources in a row. -/
structure RPol (W : World) (P : Nat → Prop) (lo hi g : Nat) (A : Option Addr) (cap : Nat) (per now : Int) (rs : List RSrc) : Prop where
  head : Blk W g 62 [.int .i64 per, .int .i64 now, .slice A rs.length cap]
  row : rs = [] ∨ ∃ gr tail, A = some ⟨gr, 0, none⟩ ∧ gr ≠ g ∧ lo ≤ gr ∧ gr < hi ∧ Blk W gr 64 (rs.flatMap rcs ++ tail)
  led : ∀ r ∈ rs, LedRd W P r
  glo : lo ≤ g ∧ g < hi
  hB : hi ≤ W.heap.size
  hP : ∀ b, P b → hi ≤ b
  hcap : rs.length ≤ cap ∧ cap ≤ 9223372036854775807
section
variable {W W1 : World} {P P1 : Nat → Prop} {lo hi g : Nat} {A : Option Addr} {cap : Nat} {per now : Int} {rs : List RSrc}
theorem RPol.keep {lo2 hi2 : Nat} (h : RPol W P lo hi g A cap per now rs) (ho : Only lo2 hi2 W W1) (hd : hi ≤ lo2 ∨ hi2 ≤ lo) (hp : ∀ b, P b → b < lo2 ∨ hi2 ≤ b) : RPol W1 P lo hi g A cap per now rs := by
  refine ⟨blk_only h.head ho (by have := h.glo; omega), ?_, fun r hr => (h.led r hr).only ho hp, h.glo, Nat.le_trans h.hB ho.size, h.hP, h.hcap⟩
  rcases h.row with h1 | ⟨gr, tail, e, h1, h2, h3, h4⟩
  · exact .inl h1
  · exact .inr ⟨gr, tail, e, h1, h2, h3, blk_only h4 ho (by omega)⟩
theorem RPol.call (h : RPol W P lo hi g A cap per now rs) (hb : Below W.heap.size W W1) : RPol W1 P lo hi g A cap per now rs :=
  h.keep (Only.of_below hb hi hi) (.inl (Nat.le_refl _)) (fun b hb => .inr (h.hP b hb))
theorem RPol.drew (h : RPol W P lo hi g A cap per now rs) : RPol W.drew P lo hi g A cap per now rs := ⟨h.head, h.row, fun r hr => (h.led r hr).drew, h.glo, h.hB, h.hP, h.hcap⟩
theorem RPol.drewN (h : RPol W P lo hi g A cap per now rs) (n : Nat) : RPol (W.drewN n) P lo hi g A cap per now rs := ⟨h.head, h.row, fun r hr => (h.led r hr).drewN n, h.glo, h.hB, h.hP, h.hcap⟩
theorem RPol.more (h : RPol W P lo hi g A cap per now rs) (hp : ∀ b, b < W.heap.size → P b → P1 b) (h2 : ∀ b, P1 b → hi ≤ b) : RPol W P1 lo hi g A cap per now rs := ⟨h.head, h.row, fun r hr => (h.led r hr).more hp, h.glo, h.hB, h2, h.hcap⟩
/-- The time goes on. -/
theorem RPol.tick (h : RPol W P lo hi g A cap per now rs) (now' : Int) (hb : Blk W1 g 62 [.int .i64 per, .int .i64 now', .slice A rs.length cap]) (ht : Turned W W1 g) : RPol W1 P lo hi g A cap per now' rs := by
  have ho : Only g (g + 1) W W1 := Only.of_turned ht (Nat.le_refl _) (Nat.lt_succ_self _)
  have hg := h.glo
  refine ⟨hb, ?_, fun r hr => (h.led r hr).only ho (fun b hb => .inr (by have := h.hP b hb; omega)), h.glo, Nat.le_trans h.hB ho.size, h.hP, h.hcap⟩
  rcases h.row with h1 | ⟨gr, tail, e, h1, h2, h3, h4⟩
  · exact .inl h1
  · exact .inr ⟨gr, tail, e, h1, h2, h3, blk_only h4 ho (by omega)⟩
theorem flat_len : ∀ l : List RSrc, (l.flatMap rcs).length = l.length * 8
  | [] => rfl
  | q :: qs => by rw [List.flatMap_cons, List.length_append, flat_len qs, List.length_cons, rcs_len]; omega
theorem flat_at {l : List RSrc} {i : Nat} (h : i < l.length) (tail : List Value) (r : RSrc) : (l.set i r).flatMap rcs ++ tail = (l.take i).flatMap rcs ++ rcs r ++ ((l.drop (i + 1)).flatMap rcs ++ tail) := by
  rw [List.set_eq_take_append_cons_drop, if_pos h, List.flatMap_append, List.flatMap_cons]
  simp only [List.append_assoc]
/-- One source of the row, and the way back. -/
theorem RPol.view (h : RPol W P lo hi g A cap per now rs) (i : Nat) (hi' : i < rs.length) :
    ∃ gr pre post, A = some ⟨gr, 0, none⟩ ∧ pre.length = i * 8 ∧ gr ≠ g ∧ lo ≤ gr ∧ gr < hi ∧ Blk W gr 64 (pre ++ rcs (rs.getD i default) ++ post) ∧ LedRd W P (rs.getD i default) ∧
      ∀ W' P' r', Blk W' gr 64 (pre ++ rcs r' ++ post) → Only gr (gr + 1) W W' → LedRd W' P' r' → (∀ b, b < W.heap.size → P b → P' b) → (∀ b, P' b → hi ≤ b) → RPol W' P' lo hi g A cap per now (rs.set i r') := by
  rcases h.row with h1 | ⟨gr, tail, e, h1, h2, h3, h4⟩
  · rw [h1] at hi'; cases hi'
  · have hg : rs.getD i default = rs[i] := by simp [hi']
    have hself : rs.set i (rs.getD i default) = rs := by rw [hg]; exact List.set_getElem_self ..
    refine ⟨gr, (rs.take i).flatMap rcs, (rs.drop (i + 1)).flatMap rcs ++ tail, e, ?_, h1, h2, h3, ?_, h.led _ (by rw [hg]; exact List.getElem_mem _), ?_⟩
    · rw [flat_len, List.length_take, Nat.min_eq_left (Nat.le_of_lt hi')]
    · rw [← flat_at hi' tail, hself]; exact h4
    · intro W' P' r' hb ho hl hp hp2
      refine ⟨by rw [List.length_set]; exact blk_only h.head ho (by omega), .inr ⟨gr, tail, e, h1, h2, h3, by rw [flat_at hi']; exact hb⟩, fun x hx => ?_, h.glo, Nat.le_trans h.hB ho.size, hp2, by rw [List.length_set]; exact h.hcap⟩
      rcases List.mem_or_eq_of_mem_set hx with hm | hm
      · exact LedRd.only ((h.led x hm).more hp) ho (fun b hb => .inr (by have := hp2 b hb; omega))
      · rw [hm]; exact hl
end
end Go.Proofs.YtcpkkaimingnlaaGreatDoor
