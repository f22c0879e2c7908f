/-
  What the laws' walks do with links: boxes, loads, comparisons; guarded operations too.
-/
import Derived.Test.YtcpkkaimingnlaaGreatDoorLrs
import Derived.Laws.StructEq
namespace Go.Proofs.YtcpkkaimingnlaaGreatDoor
open Go.RowKit

def lnkEq (l m : Link) : Bool := (bs l.scheme).toList == (bs m.scheme).toList && (bs l.host).toList == (bs m.host).toList && ((l.port : Nat) : Int) == ((m.port : Nat) : Int) && (bs l.path).toList == (bs m.path).toList && (bs l.query).toList == (bs m.query).toList && (bs l.frag).toList == (bs m.frag).toList && l.hasQ == m.hasQ && l.hasF == m.hasF
theorem lnkEq_iff (l m : Link) : lnkEq l m = true ↔ l = m := by
  unfold lnkEq
  simp only [bs_toList, Bool.and_eq_true, beq_iff_eq]
  constructor
  · rintro ⟨⟨⟨⟨⟨⟨⟨h1, h2⟩, h3⟩, h4⟩, h5⟩, h6⟩, h7⟩, h8⟩
    obtain ⟨a, b, c, d, e, f, g, h⟩ := l
    obtain ⟨a', b', c', d', e', f', g', h'⟩ := m
    simp only at h1 h2 h3 h4 h5 h6 h7 h8
    have h3 : c = c' := by omega
    rw [h1, h2, h3, h4, h5, h6, h7, h8]
  · rintro rfl
    exact ⟨⟨⟨⟨⟨⟨⟨rfl, rfl⟩, rfl⟩, rfl⟩, rfl⟩, rfl⟩, rfl⟩, rfl⟩
theorem lnkEq_self (l : Link) : lnkEq l l = true := (lnkEq_iff l l).2 rfl
theorem fields24 : (Tryz.prog.fieldsOf 24).toList.map (fun f => (f.name, f.type, f.offset)) = [("Scheme", 9, 0), ("Host", 9, 1), ("Port", 3, 2), ("Path", 9, 3), ("Query", 9, 4), ("Fragment", 9, 5), ("HasQuery", 4, 6), ("HasFragment", 4, 7)] := by kernel_rfl
theorem under24 : Tryz.prog.underlying 24 = some (.struct (Tryz.prog.fieldsOf 24)) := by kernel_rfl
theorem held24 : Tryz.prog.stoodInHeld 24 = false := by kernel_rfl
theorem guard24 : Tryz.prog.eqGuardType Tryz.prog.depth 24 = false := by kernel_rfl
theorem part_cell (t : TypeId) (d : TypeDesc) (hu : Tryz.prog.underlying t = some d) (hd : (match d with | .struct _ | .array _ _ => true | _ => false) = false) (cs : Array Value) (i : Nat) (v : Value) (h : cs[i]? = some v) (w : World) : (part t cs i).run Tryz.prog w = .ok v w := by
  have hagg : (isAgg t).run Tryz.prog w = .ok false w := by
    unfold isAgg
    rw [Sem.run_bind, run_underlying hu w]
    cases d <;> simp_all
  unfold part
  rw [Sem.run_bind, hagg]
  simp [h]
theorem eq_step (d : Nat) (f : Field) (fs : List Field) (xs ys : Array Value) (hn : f.name ≠ "_") (x y : Value) (b : Bool) (w : World)
    (hx : (part f.type xs f.offset).run Tryz.prog w = .ok x w) (hy : (part f.type ys f.offset).run Tryz.prog w = .ok y w) (he : (Op.equalIn d f.type x y).run Tryz.prog w = .ok b w)
    (c : Bool) (hr : (Op.eqFields d xs ys fs).run Tryz.prog w = .ok c w) : (Op.eqFields d xs ys (f :: fs)).run Tryz.prog w = .ok (b && c) w := by
  unfold Op.eqFields
  rw [if_pos hn]
  simp only [Sem.run_bind, hx, hy, he, Result.andThen_ok]
  cases b with
  | true => simpa using hr
  | false => simp
theorem eq_all (l m : Link) (w : World) : (Op.eqFields 9999 (lcs l).toArray (lcs m).toArray (Tryz.prog.fieldsOf 24).toList).run Tryz.prog w = .ok (lnkEq l m) w := by
  have hf := fields24
  generalize (Tryz.prog.fieldsOf 24).toList = fs at hf
  rcases fs with _ | ⟨f0, fs⟩; · simp at hf
  rcases fs with _ | ⟨f1, fs⟩; · simp at hf
  rcases fs with _ | ⟨f2, fs⟩; · simp at hf
  rcases fs with _ | ⟨f3, fs⟩; · simp at hf
  rcases fs with _ | ⟨f4, fs⟩; · simp at hf
  rcases fs with _ | ⟨f5, fs⟩; · simp at hf
  rcases fs with _ | ⟨f6, fs⟩; · simp at hf
  rcases fs with _ | ⟨f7, fs⟩; · simp at hf
  rcases fs with _ | ⟨f8, fs⟩
  · simp only [List.map_cons, List.map_nil, List.cons.injEq, Prod.mk.injEq, and_true] at hf
    obtain ⟨⟨a0, b0, c0⟩, ⟨a1, b1, c1⟩, ⟨a2, b2, c2⟩, ⟨a3, b3, c3⟩, ⟨a4, b4, c4⟩, ⟨a5, b5, c5⟩, ⟨a6, b6, c6⟩, ⟨a7, b7, c7⟩⟩ := hf
    have p9 := part_cell 9 _ Tryz.underlying9 rfl
    have p3 := part_cell 3 _ Tryz.underlying3 rfl
    have p4 := part_cell 4 _ Tryz.underlying4 rfl
    have h7 := eq_step 9999 f7 [] (lcs l).toArray (lcs m).toArray (by rw [a7]; decide) _ _ _ w (by rw [b7, c7]; exact p4 _ _ _ rfl w) (by rw [b7, c7]; exact p4 _ _ _ rfl w) (by rw [b7]; exact run_equalIn_bool' w 9998 4 l.hasF m.hasF Tryz.underlying4) true rfl
    have h6 := eq_step 9999 f6 _ (lcs l).toArray (lcs m).toArray (by rw [a6]; decide) _ _ _ w (by rw [b6, c6]; exact p4 _ _ _ rfl w) (by rw [b6, c6]; exact p4 _ _ _ rfl w) (by rw [b6]; exact run_equalIn_bool' w 9998 4 l.hasQ m.hasQ Tryz.underlying4) _ h7
    have h5 := eq_step 9999 f5 _ (lcs l).toArray (lcs m).toArray (by rw [a5]; decide) _ _ _ w (by rw [b5, c5]; exact p9 _ _ _ rfl w) (by rw [b5, c5]; exact p9 _ _ _ rfl w) (by rw [b5]; exact run_equalIn_string w 9998 9 (bs l.frag) (bs m.frag) Tryz.underlying9) _ h6
    have h4 := eq_step 9999 f4 _ (lcs l).toArray (lcs m).toArray (by rw [a4]; decide) _ _ _ w (by rw [b4, c4]; exact p9 _ _ _ rfl w) (by rw [b4, c4]; exact p9 _ _ _ rfl w) (by rw [b4]; exact run_equalIn_string w 9998 9 (bs l.query) (bs m.query) Tryz.underlying9) _ h5
    have h3 := eq_step 9999 f3 _ (lcs l).toArray (lcs m).toArray (by rw [a3]; decide) _ _ _ w (by rw [b3, c3]; exact p9 _ _ _ rfl w) (by rw [b3, c3]; exact p9 _ _ _ rfl w) (by rw [b3]; exact run_equalIn_string w 9998 9 (bs l.path) (bs m.path) Tryz.underlying9) _ h4
    have h2 := eq_step 9999 f2 _ (lcs l).toArray (lcs m).toArray (by rw [a2]; decide) _ _ _ w (by rw [b2, c2]; exact p3 _ _ _ rfl w) (by rw [b2, c2]; exact p3 _ _ _ rfl w) (by rw [b2]; exact run_equalIn_int w 9998 3 .i64 _ ((l.port : Nat) : Int) ((m.port : Nat) : Int) Tryz.underlying3) _ h3
    have h1 := eq_step 9999 f1 _ (lcs l).toArray (lcs m).toArray (by rw [a1]; decide) _ _ _ w (by rw [b1, c1]; exact p9 _ _ _ rfl w) (by rw [b1, c1]; exact p9 _ _ _ rfl w) (by rw [b1]; exact run_equalIn_string w 9998 9 (bs l.host) (bs m.host) Tryz.underlying9) _ h2
    have h0 := eq_step 9999 f0 _ (lcs l).toArray (lcs m).toArray (by rw [a0]; decide) _ _ _ w (by rw [b0, c0]; exact p9 _ _ _ rfl w) (by rw [b0, c0]; exact p9 _ _ _ rfl w) (by rw [b0]; exact run_equalIn_string w 9998 9 (bs l.scheme) (bs m.scheme) Tryz.underlying9) _ h1
    rw [h0]
    unfold lnkEq
    simp only [Bool.and_assoc, Bool.and_true]
  · simp at hf
theorem run_eqL (l m : Link) (w : World) : (binOp .eql 24 (.agg (lcs l).toArray) (.agg (lcs m).toArray)).run Tryz.prog w = .ok (.bool (lnkEq l m)) w := by
  rw [run_eql_struct, run_equalIn_struct w 9999 24 _ _ under24 held24, eq_all]; rfl
theorem run_neL (l m : Link) (w : World) : (binOp .neq 24 (.agg (lcs l).toArray) (.agg (lcs m).toArray)).run Tryz.prog w = .ok (.bool (!lnkEq l m)) w := by
  rw [run_neq_struct, run_equalIn_struct w 9999 24 _ _ under24 held24, eq_all]; rfl

/-! ### In a walk -/
theorem wpList_want {P : Program} {ops : Array Oper} {rest : List Oper} {o : Oper} {a : Act} {w : World} {Q : Exit → Act → World → Prop} (hw : Region.wanted o (yielded ops a.tmps) = true)
    (h : ∀ K : Act → World → Prop, (∀ a w, wpList P ops Q rest a w → K a w) → o.wp P a w K Q) : wpList P ops Q (o :: rest) a w :=
  wpList_step fun K hK => by rw [if_pos hw]; exact h K hK
section
variable {ops : Array Oper} {rest : List Oper} {o : Oper} {a : Act} {w : World} {Q : Exit → Act → World → Prop}
/-- A comparison of two links. -/
theorem wpList_eqW (hw : Region.wanted o (yielded ops a.tmps) = true) (x y : Operand) (ty : TypeId) (ho : o.op = .binOp .eql 24 x y ty) (l m : Link) (hx : a.eval x = .agg (lcs l).toArray) (hy : a.eval y = .agg (lcs m).toArray) (b : Bool) (hq : lnkEq l m = b)
    (h : wpList Tryz.prog ops Q rest (a.put o.dst (.bool b)) w) : wpList Tryz.prog ops Q (o :: rest) a w := by
  subst hq
  refine wpList_want hw fun K hK => ?_
  unfold Oper.wp execOp
  simp only [ho, hx, hy, Sem.run_bind, run_eqGuard_agg w .eql 24 x y _ _ guard24, run_eqL, Sem.run_pure, Result.andThen_ok]
  exact hK _ _ h
theorem wpList_neW (hw : Region.wanted o (yielded ops a.tmps) = true) (x y : Operand) (ty : TypeId) (ho : o.op = .binOp .neq 24 x y ty) (l m : Link) (hx : a.eval x = .agg (lcs l).toArray) (hy : a.eval y = .agg (lcs m).toArray) (b : Bool) (hq : lnkEq l m = b)
    (h : wpList Tryz.prog ops Q rest (a.put o.dst (.bool (!b))) w) : wpList Tryz.prog ops Q (o :: rest) a w := by
  subst hq
  refine wpList_want hw fun K hK => ?_
  unfold Oper.wp execOp
  simp only [ho, hx, hy, Sem.run_bind, run_eqGuard_agg w .neq 24 x y _ _ guard24, run_neL, Sem.run_pure, Result.andThen_ok]
  exact hK _ _ h
/-- A load of a link's block. -/
theorem wpList_loadW (hw : Region.wanted o (yielded ops a.tmps) = true) (x : Operand) (ho : o.op = .load 24 x) (g : Nat) (hx : a.eval x = .pointer (some ⟨g, 0, none⟩)) (l : Link) (hb : Blk w g 24 (lcs l))
    (h : wpList Tryz.prog ops Q rest (a.put o.dst (.agg (lcs l).toArray)) w) : wpList Tryz.prog ops Q (o :: rest) a w :=
  wpList_want hw fun _ hK => wp_load_row 24 x ho g hx 24 (lcs l).toArray (0, 0) _ hb Tryz.underlying24 rfl (by rw [info24]; rfl) (hK _ _ h)
end
/-- The links that a law has laid so far. -/
structure LK (w W : World) (L : List (Nat × Link)) : Prop where
  bel : Below w.heap.size w W
  all : ∀ p ∈ L, Blk W p.1 24 (lcs p.2) ∧ w.heap.size ≤ p.1
theorem LK.start (w : World) : LK w w [] := ⟨Below.refl _ _, fun p hp => by cases hp⟩
theorem LK.call {w W W1 : World} {L : List (Nat × Link)} (h : LK w W L) (hb : Below W.heap.size W W1) : LK w W1 L :=
  ⟨h.bel.trans (hb.mono h.bel.size), fun p hp => ⟨blk_below (h.all p hp).1 hb (blk_lt (h.all p hp).1), (h.all p hp).2⟩⟩
theorem LK.box {w W W1 : World} {L : List (Nat × Link)} (h : LK w W L) (x : Link) {g : Nat} (hg : g = W.heap.size) (hb : Blk W1 g 24 (lcs x).toArray.toList) (ht : Turned (W.alloc (.cells #[.string ⟨#[]⟩, .string ⟨#[]⟩, .int .i64 0, .string ⟨#[]⟩, .string ⟨#[]⟩, .string ⟨#[]⟩, .bool false, .bool false] 24)) W1 g) : LK w W1 ((g, x) :: L) := by
  subst hg
  refine ⟨ht.below _ _ h.bel.size (h.bel.alloc h.bel.size _), fun p hp => ?_⟩
  rcases List.mem_cons.1 hp with rfl | hp
  · exact ⟨hb, h.bel.size⟩
  · have h1 := (h.all p hp).1
    exact ⟨ht.blk (blk_alloc h1 _) (Nat.ne_of_lt (blk_lt h1)), (h.all p hp).2⟩
theorem LK.at_ {w W : World} {L : List (Nat × Link)} (h : LK w W L) {g : Nat} {x : Link} (hm : (g, x) ∈ L) : Blk W g 24 (lcs x) := (h.all _ hm).1
theorem LK.facts {w W : World} {L : List (Nat × Link)} (h : LK w W L) {g : Nat} {x : Link} (hm : (g, x) ∈ L) {i : Nat} {v : Value} (hv : (lcs x)[i]? = some v) : W.cell? ⟨g, i, none⟩ = some v := (blk_cell (h.at_ hm) i).trans hv
theorem Turned.trans {w w1 w2 : World} {g : Nat} (h : Turned w w1 g) (h2 : Turned w1 w2 g) : Turned w w2 g :=
  ⟨fun k hk => (h2.far k hk).trans (h.far k hk), h2.size.trans h.size, fun B w0 hB hb => h2.below B w0 hB (h.below B w0 hB hb)⟩
/-- The link laid last turns. -/
theorem LK.turn {w W W1 : World} {L : List (Nat × Link)} {g : Nat} {x y : Link} (h : LK w W ((g, x) :: L)) (ht : Turned W W1 g) (hb : Blk W1 g 24 (lcs y)) (hn : ∀ p ∈ L, p.1 ≠ g) : LK w W1 ((g, y) :: L) := by
  have hg := (h.all _ (.head _)).2
  refine ⟨ht.below _ _ hg h.bel, fun p hp => ?_⟩
  rcases List.mem_cons.1 hp with rfl | hp
  · exact ⟨hb, hg⟩
  · have h1 := h.all p (.tail _ hp)
    exact ⟨ht.blk h1.1 (hn p hp), h1.2⟩
end Go.Proofs.YtcpkkaimingnlaaGreatDoor
