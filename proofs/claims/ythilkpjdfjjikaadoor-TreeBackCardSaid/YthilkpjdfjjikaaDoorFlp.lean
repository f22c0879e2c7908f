/-
  Rows of pieces that are the call's own, whatever their numbers.
-/
import Derived.Test.YthilkpjdfjjikaaDoorTrdM
import Derived.Test.YthilkpjdfjjikaaDoorSzp
set_option linter.unusedVariables false
set_option linter.unusedSimpArgs false
namespace Go.Proofs.YthilkpjdfjjikaaDoor
open Go.RowKit

def pcel (q : Pc × Value) : List Value := pcc q.1 q.2
theorem pcels_len : ∀ qs : List (Pc × Value), (qs.flatMap pcel).length = qs.length * 6
  | [] => rfl
  | q :: qs => by rw [List.flatMap_cons, List.length_append, pcels_len qs, List.length_cons]; simp [pcel, pcc]; omega
theorem pcels_at : ∀ (qs : List (Pc × Value)) (i k : Nat) (q : Pc × Value), qs[i]? = some q → k < 6 → (qs.flatMap pcel)[i * 6 + k]? = (pcel q)[k]?
  | [], i, k, q, h, _ => by simp at h
  | x :: r, 0, k, q, h, hk => by
    simp only [List.getElem?_cons_zero, Option.some.injEq] at h
    subst h
    rw [List.flatMap_cons, Nat.zero_mul, Nat.zero_add, List.getElem?_append_left (by simpa [pcel, pcc] using hk)]
  | x :: r, i + 1, k, q, h, hk => by
    rw [List.flatMap_cons, List.getElem?_append_right (by simp [pcel, pcc]; omega), show (i + 1) * 6 + k - (pcel x).length = i * 6 + k from by simp [pcel, pcc]; omega]
    exact pcels_at r i k q (by simpa using h) hk
/-- The blocks that paths lie in: what came in, and new blocks of texts. -/
def QT (P : Nat → Prop) (B : Nat) (w : World) (b : Nat) : Prop := P b ∨ (B ≤ b ∧ b < w.heap.size ∧ ∃ cs fr, w.heap[b]? = some (Obj.cells cs 9 fr))
def POwn (w : World) (B : Nat) (P : Nat → Prop) (v : Value) (l : List Pc) : Prop :=
  ∃ qs : List (Pc × Value), qs.map (·.1) = l ∧ w.ownsRow B 35 6 v l.length (qs.flatMap pcel) ∧ ∀ q ∈ qs, PathRd w (QT P B w) q.2 q.1.path
section
variable {w w' : World} {B : Nat} {P : Nat → Prop} {v : Value} {l : List Pc}
theorem POwn.nil : POwn w B P (.slice none 0 0) [] := ⟨[], rfl, World.ownsRow_nil _ _ _ _, fun q hq => by simp at hq⟩
theorem POwn.form (h : POwn w B P v l) : ∃ A c, v = .slice A l.length c ∧ l.length ≤ c := by
  obtain ⟨qs, e, ho, hp⟩ := h
  obtain ⟨A, c, h1, h2, _⟩ := own_form ho
  exact ⟨A, c, h1, h2⟩
theorem QT.keep (hP : ∀ b, P b → b < B) (hB : B ≤ w.heap.size) (hs : w.heap.size ≤ w'.heap.size) (hk : ∀ b, b < B → w'.heap[b]? = w.heap[b]?) (ht : ∀ (b : Nat) (cs : Array Value) (fr : Nat × Nat), w.heap[b]? = some (Obj.cells cs 9 fr) → w'.heap[b]? = w.heap[b]?) : (∀ b, QT P B w b → w'.heap[b]? = w.heap[b]?) ∧ (∀ b, QT P B w b → QT P B w' b) := by
  refine ⟨?_, ?_⟩
  · rintro b (h | ⟨_, _, cs, fr, h⟩)
    · exact hk b (hP b h)
    · exact ht b cs fr h
  · rintro b (h | ⟨h1, h2, cs, fr, h⟩)
    · exact .inl h
    · exact .inr ⟨h1, by omega, cs, fr, by rw [ht b cs fr h]; exact h⟩
theorem POwn.below (h : POwn w B P v l) (hP : ∀ b, P b → b < B) (hB : B ≤ w.heap.size) (hb : Below w.heap.size w w') : POwn w' B P v l := by
  obtain ⟨qs, e, ho, hp⟩ := h
  have hk := QT.keep (w := w) (w' := w') hP hB hb.size (fun b h => hb.block b (by omega)) (fun b cs fr h => hb.block b (Array.getElem?_eq_some_iff.1 h).1)
  exact ⟨qs, e, own_below ho hb (fun k hk => (ho.lt k hk).2), fun q hq => (hp q hq).frame hk.1 hk.2⟩
theorem POwn.kept (h : POwn w B P v l) (hP : ∀ b, P b → b < B) (hB : B ≤ w.heap.size) (hs : w.heap.size ≤ w'.heap.size) (hk : ∀ b, b < B → w'.heap[b]? = w.heap[b]?) (ht : ∀ (b : Nat) (cs : Array Value) (t : TypeId) (fr : Nat × Nat), w.heap[b]? = some (Obj.cells cs t fr) → t = 9 ∨ t = 35 → w'.heap[b]? = w.heap[b]?) : POwn w' B P v l := by
  obtain ⟨qs, e, ho, hp⟩ := h
  have hq := QT.keep (w := w) (w' := w') hP hB hs hk (fun b cs fr h => ht b cs 9 fr h (.inl rfl))
  refine ⟨qs, e, ?_, fun q hq' => (hp q hq').frame hq.1 hq.2⟩
  refine ⟨ho.1, ?_⟩
  rcases ho.2 with hn | ⟨g, cap, cur, rfl, h1, h2, r⟩
  · exact .inl hn
  · exact .inr ⟨g, cap, cur, rfl, h1, by rw [ht g _ 35 _ h2 (.inr rfl)]; exact h2, r⟩
theorem POwn.base {B' : Nat} (h : POwn w B' P v l) (hB : B ≤ B') : POwn w B P v l := by
  obtain ⟨qs, e, ho, hp⟩ := h
  refine ⟨qs, e, own_base ho hB, fun q hq => (hp q hq).frame (fun _ _ => rfl) ?_⟩
  rintro b (h | ⟨h1, h2⟩)
  · exact .inl h
  · exact .inr ⟨by omega, h2⟩
/-- It reads as its pieces. -/
theorem POwn.pcs (h : POwn w B P v l) (hP : ∀ b, P b → b < w.heap.size) : PcsRd w (fun b => b < w.heap.size) v l := by
  obtain ⟨qs, e, ho, hp⟩ := h
  obtain ⟨A, c, rfl, hc, _⟩ := own_form ho
  refine ⟨A, c, rfl, hc, ?_⟩
  by_cases hn : l = []
  · exact .inl hn
  · obtain ⟨g, rfl, h3, h4⟩ := own_some ho (List.length_pos_iff.2 hn)
    refine .inr ⟨g, 0, rfl, h4, fun i hi => ?_⟩
    have hql : qs.length = l.length := by rw [← e, List.length_map]
    have hiq : i < qs.length := by omega
    have hx : qs[i]? = some qs[i] := List.getElem?_eq_getElem hiq
    have hpa : pcAt l i = (qs[i]).1 := by
      unfold pcAt
      rw [List.getD_eq_getElem?_getD, ← e, List.getElem?_map, hx]; rfl
    rw [hpa]
    refine ⟨(qs[i]).2, fun k hk => ?_, (hp _ (List.getElem_mem hiq)).frame (fun _ _ => rfl) ?_⟩
    · rw [Nat.zero_add, ho.cellAt (i * 6 + k) (by have := Nat.mul_le_mul_right 6 (show i + 1 ≤ l.length from hi); rw [Nat.add_mul] at this; omega), pcels_at qs i k _ hx hk]
      rfl
    · rintro b (h | ⟨_, h, _⟩)
      · exact hP b h
      · exact h
/-- Its cells, to be copied. -/
theorem POwn.cells (h : POwn w B P v l) : ∃ (qs : List (Pc × Value)) (A : Option Addr) (c : Nat), v = .slice A l.length c ∧ l.length ≤ c ∧ qs.map (·.1) = l ∧ Rd w w.heap.size 6 A l.length (qs.flatMap pcel) ∧ ∀ q ∈ qs, PathRd w (QT P B w) q.2 q.1.path := by
  obtain ⟨qs, e, ho, hp⟩ := h
  obtain ⟨A, c, rfl, hc, _⟩ := own_form ho
  have hql : qs.length = l.length := by rw [← e, List.length_map]
  refine ⟨qs, A, c, rfl, hc, e, ⟨by rw [pcels_len, hql], fun hn => ?_⟩, hp⟩
  obtain ⟨g, rfl, h3, h4⟩ := own_some ho hn
  exact ⟨g, 0, rfl, h4, fun j hj => by rw [Nat.zero_add]; exact ho.cellAt j hj⟩
theorem pcel_one (qs : List (Pc × Value)) (h : ∀ q ∈ qs, ∃ A n c, q.2 = .slice A n c) : ∀ u ∈ qs.flatMap pcel, u.oneCell' = true := by
  intro u hu
  obtain ⟨q, hq, hu⟩ := List.mem_flatMap.1 hu
  obtain ⟨A, n, c, e⟩ := h q hq
  unfold pcel pcc at hu
  rw [e] at hu
  simp only [List.mem_cons, List.not_mem_nil, or_false] at hu
  rcases hu with rfl | rfl | rfl | rfl | rfl | rfl <;> rfl
theorem path_form {Q : Nat → Prop} {u : Value} {p : List Bs} (h : PathRd w Q u p) : ∃ A n c, u = .slice A n c := by
  obtain ⟨A, c, rfl, _⟩ := h
  exact ⟨A, _, c, rfl⟩
/-- Some pieces more. -/
theorem POwn.more (hP : ∀ b, P b → b < B) (hB : B ≤ w.heap.size) (qs : List (Pc × Value)) (e : qs.map (·.1) = l) (ho : w.ownsRow B 35 6 v l.length (qs.flatMap pcel)) (hp : ∀ q ∈ qs, PathRd w (QT P B w) q.2 q.1.path)
    (hg : w.grownBy w' v.ownBlock) (qs2 : List (Pc × Value)) (hp2 : ∀ q ∈ qs2, PathRd w (QT P B w) q.2 q.1.path) {v' : Value} {l2 : List Pc} (e2 : qs2.map (·.1) = l2)
    (ho' : w'.ownsRow B 35 6 v' (l.length + l2.length) (qs.flatMap pcel ++ qs2.flatMap pcel)) : POwn w' B P v' (l ++ l2) := by
  have hk := QT.keep (w := w) (w' := w') hP hB hg.size
    (fun b hb => hg.block b (by omega) (fun e => by have := (ho.lt b e.symm).1; omega))
    (fun b cs fr h => hg.block b (Array.getElem?_eq_some_iff.1 h).1 (fun e => by
      obtain ⟨cur, hc⟩ := own_block ho e.symm
      rw [hc] at h
      injection h with h
      injection h with _ h _
      exact absurd h (by decide)))
  refine ⟨qs ++ qs2, by rw [List.map_append, e, e2], ?_, ?_⟩
  · rw [List.length_append, List.flatMap_append]; exact ho'
  · intro q hq
    rcases List.mem_append.1 hq with hq | hq
    · exact (hp q hq).frame hk.1 hk.2
    · exact (hp2 q hq).frame hk.1 hk.2
end
theorem info35 : (Tryd.prog.info? 35).map (fun i => (i.zero, i.size, i.bytes)) = some (some (.agg #[.int .i64 0, .int .i64 0, .string ⟨#[]⟩, .slice none 0 0, .string ⟨#[]⟩, .int .i64 0]), 6, 80) := by kernel_rfl
theorem sizes_snoc (l : List Part) (i : Nat) (q : Part) (h : l[i]? = some q) : sizes (l.take i) + q.size ≤ sizes l := by
  obtain ⟨hl, rfl⟩ := List.getElem?_eq_some_iff.1 h
  have h1 := sizes_append (l.take (i + 1)) (l.drop (i + 1))
  rw [List.take_append_drop, List.take_succ_eq_append_getElem hl, sizes_append] at h1
  have h2 : sizes [l[i]] = (l[i]).size := by simp [sizes]
  omega
/-- Blocks of other types than pieces' are as they were. -/
def Kept (w w' : World) : Prop := ∀ (b : Nat) (cs : Array Value) (t : TypeId) (fr : Nat × Nat), w.heap[b]? = some (Obj.cells cs t fr) → t ≠ 35 → w'.heap[b]? = w.heap[b]?
theorem Kept.blk {w w' : World} (h : Kept w w') {g : Nat} {t : TypeId} {cs : List Value} (hb : Blk w g t cs) (ht : t ≠ 35) : Blk w' g t cs := (h g _ t _ hb ht).trans hb
theorem kept_grown {w w' : World} {B size n : Nat} {v : Value} {xs : List Value} (ho : w.ownsRow B 35 size v n xs) (hg : w.grownBy w' v.ownBlock) : Kept w w' := by
  intro b cs t fr h ht
  refine hg.block b (Array.getElem?_eq_some_iff.1 h).1 (fun e => ?_)
  obtain ⟨cur, hc⟩ := own_block ho e.symm
  rw [hc] at h
  injection h with h
  injection h with _ h _
  exact ht h.symm
/-- 'append(out, l...)', both the call's own. -/
theorem wpList_appP {w : World} {ops : Array Oper} {rest : List Oper} {o : Oper} {a : Act} {Q : Exit → Act → World → Prop} (hgd : o.guard = none) (s x : Operand)
    (ho : o.op = .call { callee := .builtin .append, args := #[s, x], argTypes := #[23, 23] })
    (B : Nat) (P : Nat → Prop) (hP : ∀ b, P b → b < B) (hB : B ≤ w.heap.size) (out l2 : List Pc) (v v2 : Value) (hs : a.eval s = v) (hv : POwn w B P v out) (hx : a.eval x = v2) (hv2 : POwn w B P v2 l2) (hn : out.length + l2.length ≤ 1000000)
    (h : ∀ v' w', POwn w' B P v' (out ++ l2) → Below B w w' → Kept w w' → wpList Tryd.prog ops Q rest (a.put o.dst v') w') : wpList Tryd.prog ops Q (o :: rest) a w := by
  obtain ⟨qs, e, hown, hp⟩ := hv
  obtain ⟨qs2, A, c, rfl, hc, e2, hrd, hp2⟩ := hv2.cells
  refine wpList_appendRd hgd s x 23 ho B 35 _ 6 80 Tryd.underlying23 info35 rfl (by decide) v out.length _ hs hown w.heap.size A l2.length c _ hx hrd (pcel_one qs2 (fun q hq => path_form (hp2 q hq))) (by omega) (by omega) hB ?_
  intro A' cap w' hown' hb hg
  exact h _ w' (POwn.more hP hB qs e hown hp hg qs2 hp2 e2 hown') hb (kept_grown hown hg)
/-- 'append(out, p)': the piece is laid in a block of its own first. -/
theorem wpList_pushP {w : World} {ops : Array Oper} {rest : List Oper} {o : Oper} {a : Act} {Q : Exit → Act → World → Prop} (hgd : o.guard = none) (s x : Operand)
    (ho : o.op = .call { callee := .builtin .append, args := #[s, x], argTypes := #[23, 23] })
    (B : Nat) (P : Nat → Prop) (hP : ∀ b, P b → b < B) (hB : B ≤ w.heap.size) (out : List Pc) (v : Value) (hs : a.eval s = v) (hv : POwn w B P v out) (p : Pc) (pv : Value) (hpv : PathRd w (QT P B w) pv p.path)
    (cs : Array Value) (hcs : cs.toList = pcel (p, pv)) (hx : a.eval x = .slice (some ⟨w.heap.size, 0, none⟩) 1 1) (hn : out.length + 1 ≤ 1000000)
    (h : ∀ v' w', POwn w' B P v' (out ++ [p]) → Below B w w' → Kept w w' → wpList Tryd.prog ops Q rest (a.put o.dst v') w') : wpList Tryd.prog ops Q (o :: rest) a (w.alloc (.cells cs 35)) := by
  obtain ⟨qs, e, hown, hp⟩ := hv
  have hsz : cs.size = 1 * 6 := by rw [← Array.length_toList, hcs]; rfl
  refine wpList_pushG hgd s x 23 ho B 35 _ 6 80 Tryd.underlying23 info35 rfl (by decide) v out.length _ hs hown cs 1 (by decide) hx hsz ?_ (by omega) (by omega) hB ?_
  · rw [List.all_eq_true, hcs]
    have := pcel_one [(p, pv)] (fun q hq => by rw [List.mem_singleton.1 hq]; exact path_form hpv)
    rwa [List.flatMap_singleton] at this
  · intro g cap w' hown' _ hb hg
    refine h _ w' (POwn.more hP hB qs e hown hp hg [(p, pv)] (fun q hq => by rw [List.mem_singleton.1 hq]; exact hpv) rfl ?_) hb (kept_grown hown hg)
    rw [List.flatMap_singleton, ← hcs]; exact hown'
theorem own_pathT {w : World} {B B' cap : Nat} {P : Nat → Prop} {A : Option Addr} {l : List Bs} (h : w.ownsRow B' 9 1 (.slice A l.length cap) l.length (strs l)) (hB : B ≤ B') : PathRd w (QT P B w) (.slice A l.length cap) l := by
  obtain ⟨A', c', e, hc, _⟩ := own_form h
  injection e with e1 _ e2
  subst e1 e2
  refine ⟨_, _, rfl, hc, ?_⟩
  by_cases hn : l = []
  · exact .inl hn
  · obtain ⟨g, rfl, h1, h2⟩ := own_some h (List.length_pos_iff.2 hn)
    obtain ⟨cur, hcur⟩ := own_block h (show Value.ownBlock (.slice (some ⟨g, 0, none⟩) l.length cap) = some g from rfl)
    exact .inr ⟨g, 0, rfl, .inr ⟨by omega, h2, cur, (0, 0), hcur⟩, fun j hj => by rw [Nat.zero_add]; exact h.cellAt j (by omega)⟩
end Go.Proofs.YthilkpjdfjjikaaDoor
