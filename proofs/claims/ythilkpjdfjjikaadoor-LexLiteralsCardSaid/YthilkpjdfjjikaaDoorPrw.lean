/-
  Rows of pieces in memory.
-/
import Derived.Test.YthilkpjdfjjikaaDoorTag
namespace Go.Proofs.YthilkpjdfjjikaaDoor
open Go.RowKit

def pcell (q : Piece × Value) : List Value := [.int .i64 ((q.1.kind : Nat) : Int), .int .i64 ((q.1.pos : Nat) : Int), .string (bs q.1.text), q.2, .string (bs q.1.name), .int .i64 ((q.1.place : Nat) : Int)]
theorem pcells_len : ∀ qs : List (Piece × Value), (qs.flatMap pcell).length = qs.length * 6
  | [] => rfl
  | q :: qs => by rw [List.flatMap_cons, List.length_append, pcells_len qs, List.length_cons]; simp [pcell]; omega
/-- A slice that reads as a list of pieces; its row, and the rows of their paths, are the call's own. -/
def PRow (w : World) (B : Nat) (v : Value) (ps : List Piece) : Prop :=
  ∃ qs : List (Piece × Value), qs.map (·.1) = ps ∧ w.ownsRow B 35 6 v ps.length (qs.flatMap pcell) ∧ ∀ q ∈ qs, w.ownsRow B 9 1 q.2 q.1.path.length (strs q.1.path)
theorem PRow.nil (w : World) (B : Nat) : PRow w B (.slice none 0 0) [] := ⟨[], rfl, World.ownsRow_nil _ _ _ _, fun q hq => by simp at hq⟩
theorem own_block {w : World} {B size n : Nat} {e : TypeId} {v : Value} {xs : List Value} (h : w.ownsRow B e size v n xs) {g : Nat} (hg : v.ownBlock = some g) : ∃ cur, w.heap[g]? = some (.cells cur e (0, 0)) := by
  rcases h.2 with ⟨rfl, _⟩ | ⟨g', cap, cur, rfl, _, hgg, _⟩
  · simp [Value.ownBlock] at hg
  · have : g' = g := by simpa [Value.ownBlock] using hg
    subst this
    exact ⟨cur, hgg⟩
/-- What is owned is kept where the block that turned is of another type. -/
theorem own_type {w w' : World} {B size n : Nat} {e : TypeId} {v : Value} {xs : List Value} (h : w.ownsRow B e size v n xs) {row : Option Nat} (hg : w.grownBy w' row) (hr : ∀ g, row = some g → ∃ cur t fr, w.heap[g]? = some (.cells cur t fr) ∧ t ≠ e) : w'.ownsRow B e size v n xs := by
  refine h.kept hg ?_
  cases ho : v.ownBlock with
  | none => exact .inl rfl
  | some g =>
    refine .inr ?_
    intro e'
    obtain ⟨cur, t, fr, h1, h2⟩ := hr g e'.symm
    obtain ⟨cur', h3⟩ := own_block h ho
    rw [h3] at h1
    injection h1 with h1
    injection h1 with _ h1 _
    exact h2 h1.symm
theorem PRow.grown {w w' : World} {B : Nat} {v : Value} {ps : List Piece} (h : PRow w B v ps) {g : Nat} (hg : w.grownBy w' (some g)) {cs : List Value} {t : TypeId} (hm : Blk w g t cs) (h1 : t ≠ 35) (h2 : t ≠ 9) : PRow w' B v ps := by
  obtain ⟨qs, e, ho, hp⟩ := h
  refine ⟨qs, e, own_type ho hg (fun g' hg' => ?_), fun q hq => own_type (hp q hq) hg (fun g' hg' => ?_)⟩
  · cases hg'; exact ⟨_, _, _, hm, h1⟩
  · cases hg'; exact ⟨_, _, _, hm, h2⟩
theorem PRow.below {w w' : World} {B : Nat} {v : Value} {ps : List Piece} (h : PRow w B v ps) (hb : Below w.heap.size w w') : PRow w' B v ps := by
  obtain ⟨qs, e, ho, hp⟩ := h
  exact ⟨qs, e, own_below ho hb (fun k hk => (ho.lt k hk).2), fun q hq => own_below (hp q hq) hb (fun k hk => ((hp q hq).lt k hk).2)⟩
theorem PRow.base {w : World} {B B' : Nat} {v : Value} {ps : List Piece} (h : PRow w B v ps) (hB : B' ≤ B) : PRow w B' v ps := by
  obtain ⟨qs, e, ho, hp⟩ := h
  exact ⟨qs, e, own_base ho hB, fun q hq => own_base (hp q hq) hB⟩
theorem PRow.form {w : World} {B : Nat} {v : Value} {ps : List Piece} (h : PRow w B v ps) : ∃ A c, v = .slice A ps.length c ∧ ps.length ≤ c := by
  obtain ⟨qs, e, ho, hp⟩ := h
  obtain ⟨A, c, h1, h2, _⟩ := own_form ho
  exact ⟨A, c, h1, h2⟩
/-- 'out = append(out, p)': the row's block alone may turn. -/
theorem wpList_pushG {P : Program} {w : World} {ops : Array Oper} {rest : List Oper} {o : Oper} {a : Act} {Q : Exit → Act → World → Prop} (hgd : o.guard = none) (s x : Operand) (t : TypeId)
    (ho : o.op = .call { callee := .builtin .append, args := #[s, x], argTypes := #[t, t] })
    (base : Nat) (e : TypeId) (z : Value) (size bytes : Nat) (ht : P.underlying t = some (.slice e)) (hinfo : (P.info? e).map (fun i => (i.zero, i.size, i.bytes)) = some (some z, size, bytes))
    (hzs : z.cells.size = size) (hsz : 0 < size)
    (v : Value) (n : Nat) (xs : List Value) (hs : a.eval s = v) (hown : w.ownsRow base e size v n xs)
    (cs : Array Value) (m : Nat) (hm : 0 < m) (hx : a.eval x = .slice (some ⟨w.heap.size, 0, none⟩) m m) (hcs : cs.size = m * size) (h1 : cs.toList.all Value.oneCell' = true)
    (h63 : n + m ≤ 9223372036854775807) (hbytes : (n + m) * bytes ≤ 140737488355328) (hbase : base ≤ w.heap.size)
    (h : ∀ g cap w', w'.ownsRow base e size (.slice (some ⟨g, 0, none⟩) (n + m) cap) (n + m) (xs ++ cs.toList) → base ≤ g → Below base w w' → w.grownBy w' v.ownBlock →
      wpList P ops Q rest (a.put o.dst (.slice (some ⟨g, 0, none⟩) (n + m) cap)) w') : wpList P ops Q (o :: rest) a (w.alloc (.cells cs e)) := by
  obtain ⟨i0, hi, hz0, hz1, hz2⟩ := info_parts hinfo
  refine wpList_append_own _ hgd s x t ho base e i0 z size bytes ht hi hz0 hz1 hz2 hzs hsz v n xs hs (hown.alloc _) ⟨w.heap.size, 0, none⟩ m m cs.toList hx (by simpa using hcs) (cells_new w cs e) (List.all_eq_true.1 h1) (by unfold maxLen; omega) hbytes (by simp; omega) ?_
  intro v' w' hown' hg _
  obtain ⟨g, cap, rfl, hb, _⟩ := hown'.form (by omega)
  refine h g cap w' hown' hb ?_ ((gb_alloc w _ _).trans hg)
  exact ((Below.refl base w).alloc hbase _).grown hg (by simp; omega) (fun k hk => own_size hown k hk)
/-- One piece more. -/
theorem PRow.pushed {w w' : World} {B : Nat} {v v' : Value} {ps : List Piece} (qs : List (Piece × Value)) (e : qs.map (·.1) = ps) (ho : w.ownsRow B 35 6 v ps.length (qs.flatMap pcell)) (hp : ∀ q ∈ qs, w.ownsRow B 9 1 q.2 q.1.path.length (strs q.1.path))
    (p : Piece) (pv : Value) (hpv : w.ownsRow B 9 1 pv p.path.length (strs p.path)) (hg : w.grownBy w' v.ownBlock) (ho' : w'.ownsRow B 35 6 v' (ps.length + 1) (qs.flatMap pcell ++ pcell (p, pv))) : PRow w' B v' (ps ++ [p]) := by
  have hk : ∀ {l : List Value} {n : Nat} {u : Value}, w.ownsRow B 9 1 u n l → w'.ownsRow B 9 1 u n l := by
    intro l n u h
    refine own_type h hg (fun g hg' => ?_)
    obtain ⟨cur, hc⟩ := own_block ho hg'
    exact ⟨cur, 35, (0, 0), hc, by decide⟩
  refine ⟨qs ++ [(p, pv)], by rw [List.map_append, e]; rfl, ?_, ?_⟩
  · rw [List.length_append, List.length_singleton, List.flatMap_append]
    simpa using ho'
  · intro q hq
    rcases List.mem_append.1 hq with hq | hq
    · exact hk (hp q hq)
    · rw [List.mem_singleton.1 hq]; exact hk hpv
/-- The machine's block under a push. -/
theorem blk_grown {w w' : World} {g : Nat} {t : TypeId} {cs : List Value} (h : Blk w g t cs) {row : Option Nat} (hg : w.grownBy w' row) (hr : ∀ g', row = some g' → ∃ cur t' fr, w.heap[g']? = some (.cells cur t' fr) ∧ t' ≠ t) : Blk w' g t cs := by
  refine (hg.block g (blk_lt h) ?_).trans h
  intro e
  obtain ⟨cur, t', fr, h1, h2⟩ := hr g e.symm
  unfold Blk at h
  rw [h] at h1
  injection h1 with h1
  injection h1 with _ h1 _
  exact h2 h1.symm
end Go.Proofs.YthilkpjdfjjikaaDoor
