/-
  Texts of this seat, joined: Prw, Rsm, Rlo, Rsa. Each says what it proves, ahead of itself.
-/
import Derived.OwnWalk
import Derived.Test.YthilkpjdfjjikaaDoorMchM
import Derived.Test.YthilkpjdfjjikaaDoorTag
set_option linter.unusedVariables false
set_option linter.unusedSimpArgs false
section
/-
  Rows of pieces in memory.
-/
namespace Go.Proofs.YthilkpjdfjjikaaDoor
open Go.RowKit

def pcell (q : Piece × Value) : List Value := [.int .i64 ((q.1.kind : Nat) : Int), .int .i64 ((q.1.pos : Nat) : Int), .string (bs q.1.text), q.2, .string (bs q.1.name), .int .i64 ((q.1.place : Nat) : Int)]
theorem pcells_len : ∀ qs : List (Piece × Value), (qs.flatMap pcell).length = qs.length * 6
  | [] => rfl
  | q :: qs => by rw [List.flatMap_cons, List.length_append, pcells_len qs, List.length_cons]; simp [pcell]; omega
/-- A slice that reads as a list of pieces; its row, and the rows of their paths, are the call's own. -/
def PRow (w : World) (B : Nat) (v : Value) (ps : List Piece) : Prop :=
  ∃ qs : List (Piece × Value), qs.map (·.1) = ps ∧ w.ownsRow B 35 6 v ps.length (qs.flatMap pcell) ∧ ∀ q ∈ qs, w.ownsRow B 9 1 q.2 q.1.path.length (strs q.1.path)
theorem PRow.nil (w : World) (B : Nat) : PRow w B (.slice none 0 0) [] := ⟨[], rfl, World.ownsRow_nil _ _ _ _, fun q hq => by simp at hq⟩
theorem own_block {w : World} {B size n : Nat} {e : TypeId} {v : Value} {xs : List Value} (h : w.ownsRow B e size v n xs) {g : Nat} (hg : v.ownBlock = some g) : ∃ cur, w.heap[g]? = some (.cells cur e (0, 0)) := by
  rcases h.2 with ⟨rfl, _⟩ | ⟨g', cap, cur, rfl, _, hgg, _⟩
  · simp [Value.ownBlock] at hg
  · have : g' = g := by simpa [Value.ownBlock] using hg
    subst this
    exact ⟨cur, hgg⟩
/-- What is owned is kept where the block that turned is of another type. -/
theorem own_type {w w' : World} {B size n : Nat} {e : TypeId} {v : Value} {xs : List Value} (h : w.ownsRow B e size v n xs) {row : Option Nat} (hg : w.grownBy w' row) (hr : ∀ g, row = some g → ∃ cur t fr, w.heap[g]? = some (.cells cur t fr) ∧ t ≠ e) : w'.ownsRow B e size v n xs := by
  refine h.kept hg ?_
  cases ho : v.ownBlock with
  | none => exact .inl rfl
  | some g =>
    refine .inr ?_
    intro e'
    obtain ⟨cur, t, fr, h1, h2⟩ := hr g e'.symm
    obtain ⟨cur', h3⟩ := own_block h ho
    rw [h3] at h1
    injection h1 with h1
    injection h1 with _ h1 _
    exact h2 h1.symm
theorem PRow.grown {w w' : World} {B : Nat} {v : Value} {ps : List Piece} (h : PRow w B v ps) {g : Nat} (hg : w.grownBy w' (some g)) {cs : List Value} {t : TypeId} (hm : Blk w g t cs) (h1 : t ≠ 35) (h2 : t ≠ 9) : PRow w' B v ps := by
  obtain ⟨qs, e, ho, hp⟩ := h
  refine ⟨qs, e, own_type ho hg (fun g' hg' => ?_), fun q hq => own_type (hp q hq) hg (fun g' hg' => ?_)⟩
  · cases hg'; exact ⟨_, _, _, hm, h1⟩
  · cases hg'; exact ⟨_, _, _, hm, h2⟩
theorem PRow.below {w w' : World} {B : Nat} {v : Value} {ps : List Piece} (h : PRow w B v ps) (hb : Below w.heap.size w w') : PRow w' B v ps := by
  obtain ⟨qs, e, ho, hp⟩ := h
  exact ⟨qs, e, own_below ho hb (fun k hk => (ho.lt k hk).2), fun q hq => own_below (hp q hq) hb (fun k hk => ((hp q hq).lt k hk).2)⟩
theorem PRow.base {w : World} {B B' : Nat} {v : Value} {ps : List Piece} (h : PRow w B v ps) (hB : B' ≤ B) : PRow w B' v ps := by
  obtain ⟨qs, e, ho, hp⟩ := h
  exact ⟨qs, e, own_base ho hB, fun q hq => own_base (hp q hq) hB⟩
theorem PRow.form {w : World} {B : Nat} {v : Value} {ps : List Piece} (h : PRow w B v ps) : ∃ A c, v = .slice A ps.length c ∧ ps.length ≤ c := by
  obtain ⟨qs, e, ho, hp⟩ := h
  obtain ⟨A, c, h1, h2, _⟩ := own_form ho
  exact ⟨A, c, h1, h2⟩
/-- 'out = append(out, p)': the row's block alone may turn. -/
theorem wpList_pushG {P : Program} {w : World} {ops : Array Oper} {rest : List Oper} {o : Oper} {a : Act} {Q : Exit → Act → World → Prop} (hgd : o.guard = none) (s x : Operand) (t : TypeId)
    (ho : o.op = .call { callee := .builtin .append, args := #[s, x], argTypes := #[t, t] })
    (base : Nat) (e : TypeId) (z : Value) (size bytes : Nat) (ht : P.underlying t = some (.slice e)) (hinfo : (P.info? e).map (fun i => (i.zero, i.size, i.bytes)) = some (some z, size, bytes))
    (hzs : z.cells.size = size) (hsz : 0 < size)
    (v : Value) (n : Nat) (xs : List Value) (hs : a.eval s = v) (hown : w.ownsRow base e size v n xs)
    (cs : Array Value) (m : Nat) (hm : 0 < m) (hx : a.eval x = .slice (some ⟨w.heap.size, 0, none⟩) m m) (hcs : cs.size = m * size) (h1 : cs.toList.all Value.oneCell' = true)
    (h63 : n + m ≤ 9223372036854775807) (hbytes : (n + m) * bytes ≤ 140737488355328) (hbase : base ≤ w.heap.size)
    (h : ∀ g cap w', w'.ownsRow base e size (.slice (some ⟨g, 0, none⟩) (n + m) cap) (n + m) (xs ++ cs.toList) → base ≤ g → Below base w w' → w.grownBy w' v.ownBlock →
      wpList P ops Q rest (a.put o.dst (.slice (some ⟨g, 0, none⟩) (n + m) cap)) w') : wpList P ops Q (o :: rest) a (w.alloc (.cells cs e)) := by
  obtain ⟨i0, hi, hz0, hz1, hz2⟩ := info_parts hinfo
  refine wpList_append_own _ hgd s x t ho base e i0 z size bytes ht hi hz0 hz1 hz2 hzs hsz v n xs hs (hown.alloc _) ⟨w.heap.size, 0, none⟩ m m cs.toList hx (by simpa using hcs) (cells_new w cs e) (List.all_eq_true.1 h1) (by unfold maxLen; omega) hbytes (by simp; omega) ?_
  intro v' w' hown' hg _
  obtain ⟨g, cap, rfl, hb, _⟩ := hown'.form (by omega)
  refine h g cap w' hown' hb ?_ ((gb_alloc w _ _).trans hg)
  exact ((Below.refl base w).alloc hbase _).grown hg (by simp; omega) (fun k hk => own_size hown k hk)
/-- One piece more. -/
theorem PRow.pushed {w w' : World} {B : Nat} {v v' : Value} {ps : List Piece} (qs : List (Piece × Value)) (e : qs.map (·.1) = ps) (ho : w.ownsRow B 35 6 v ps.length (qs.flatMap pcell)) (hp : ∀ q ∈ qs, w.ownsRow B 9 1 q.2 q.1.path.length (strs q.1.path))
    (p : Piece) (pv : Value) (hpv : w.ownsRow B 9 1 pv p.path.length (strs p.path)) (hg : w.grownBy w' v.ownBlock) (ho' : w'.ownsRow B 35 6 v' (ps.length + 1) (qs.flatMap pcell ++ pcell (p, pv))) : PRow w' B v' (ps ++ [p]) := by
  have hk : ∀ {l : List Value} {n : Nat} {u : Value}, w.ownsRow B 9 1 u n l → w'.ownsRow B 9 1 u n l := by
    intro l n u h
    refine own_type h hg (fun g hg' => ?_)
    obtain ⟨cur, hc⟩ := own_block ho hg'
    exact ⟨cur, 35, (0, 0), hc, by decide⟩
  refine ⟨qs ++ [(p, pv)], by rw [List.map_append, e]; rfl, ?_, ?_⟩
  · rw [List.length_append, List.length_singleton, List.flatMap_append]
    simpa using ho'
  · intro q hq
    rcases List.mem_append.1 hq with hq | hq
    · exact hk (hp q hq)
    · rw [List.mem_singleton.1 hq]; exact hk hpv
/-- The machine's block under a push. -/
theorem blk_grown {w w' : World} {g : Nat} {t : TypeId} {cs : List Value} (h : Blk w g t cs) {row : Option Nat} (hg : w.grownBy w' row) (hr : ∀ g', row = some g' → ∃ cur t' fr, w.heap[g']? = some (.cells cur t' fr) ∧ t' ≠ t) : Blk w' g t cs := by
  refine (hg.block g (blk_lt h) ?_).trans h
  intro e
  obtain ⟨cur, t', fr, h1, h2⟩ := hr g e.symm
  unfold Blk at h
  rw [h] at h1
  injection h1 with h1
  injection h1 with _ h1 _
  exact h2 h1.symm
end Go.Proofs.YthilkpjdfjjikaaDoor
end
section
/-
  The document's machine: its small functions.
-/
namespace Go.Proofs.YthilkpjdfjjikaaDoor
open Go.RowKit

theorem str_byte (l : Bs) (i : Nat) (h : i < l.length) (w : World) : (Instr.index 9 (.string (bs l)) (.int .i64 (i : Int))).run Tryd.prog w = .ok (.int .u8 (((l.getD i 0).toNat : Nat) : Int)) w := by
  rw [run_index_string _ _ _ _ _ Tryd.underlying9]
  have hs : (bs l).size = l.length := bs_size l
  rw [dif_pos ⟨by omega, by rw [hs]; omega⟩]
  have e : ((bs l)[(i : Int).toNat]'(by rw [hs]; omega)) = l.getD i 0 := by
    show l.toArray[(i : Int).toNat]'_ = _
    simp [h]
  rw [e]
theorem letterR_any (c : UInt8) (w : World) : Calls Tryd.prog 55 #[u8v c] w fun e w' => e = .returned (.bool (letterB c)) ∧ w' = w := by
  unfold letterB u8v
  generalize c.toNat = n
  go_enter Tryd.func55, Tryd.ntmps55
  go_wp2_with fail
  all_goals go_ret
  all_goals refine ⟨congrArg (fun b => Ending.returned (Value.bool b)) ?_, rfl⟩
  all_goals first | (simp_all; done) | (rw [Bool.eq_iff_iff]; simp; omega) | trace_state
set_option maxHeartbeats 1000000 in
set_option maxRecDepth 100000 in
theorem one_any (c : UInt8) (l : Bs) (w : World) (hl : l.length ≤ 1000000) : Calls Tryd.prog 53 #[u8v c, .string (bs l)] w fun e w' => e = .returned (.bool (l.contains c)) ∧ w' = w := by
  have hz : (bs l).size = l.length := bs_size l
  have HX := Lib.hid (fun i h => str_byte l i h w)
  obtain ⟨S, hS⟩ : ∃ S, S = bs l := ⟨_, rfl⟩
  rw [← hS] at hz HX ⊢
  clear hS
  obtain ⟨n, hn⟩ : ∃ n, n = l.length := ⟨_, rfl⟩
  rw [← hn] at hz hl HX
  have Hn := Lib.hid hn; clear hn
  obtain ⟨R, hR⟩ : ∃ R, R = l.contains c := ⟨_, rfl⟩
  rw [← hR]
  have HR := Lib.hid hR; clear hR
  unfold u8v
  go_enter Tryd.func53, Tryd.ntmps53
  go_wp2_with fail
  go_loopw [5] (fun i wr => ∃ j : Nat, i = .int .i64 (j : Int) ∧ j ≤ n ∧ (∀ k, k < j → l.getD k 0 ≠ c) ∧ wr = w) (fun i _ => n - (intOf i).toNat)
  case atStart => exact ⟨0, rfl, Nat.zero_le _, fun k hk => absurd hk (Nat.not_lt_zero k), rfl⟩
  case round =>
    obtain ⟨j, rfl, hj, hno, rfl⟩ := hrel
    have HN := Lib.hid hno; clear hno
    by_cases hjn : j < n
    · have tj : decide ((j : Int) < (n : Int)) = true := by rw [decide_eq_true_eq]; omega
      have hx := HX.out j hjn
      by_cases hc : l.getD j 0 = c
      · have hr : l.contains c = true := by
          rw [List.contains_iff_mem]
          have hjl : j < l.length := by rw [← Hn.out]; exact hjn
          rw [← hc, List.getD_eq_getElem?_getD, List.getElem?_eq_getElem hjl]
          exact List.getElem_mem hjl
        have HRf := Lib.hid (HR.out.trans hr)
        rw [hc] at hx
        clear hr hc
        generalize c.toNat = cn at *
        have te : ((cn : Int) == (cn : Int)) = true := beq_self_eq_true _
        go_wp2_with fail
        go_ret
        exact ⟨by rw [HRf.out]; rfl, rfl⟩
      · have te : ((((l.getD j 0).toNat : Nat) : Int) == ((c.toNat : Nat) : Int)) = false := by
          rw [beq_eq_false_iff_ne]; intro e; exact hc (by apply UInt8.toNat_inj.1; omega)
        obtain ⟨x, hxe⟩ : ∃ x, x = l.getD j 0 := ⟨_, rfl⟩
        rw [← hxe] at te hx
        have HC := Lib.hid hc
        clear hc hxe
        generalize x.toNat = xn at te hx
        go_wp2_with fail
        refine ⟨⟨j + 1, by go_num, by omega, ?_, by first | exact rfl | exact trivial⟩, by simp [intOf]; omega⟩
        intro k hk
        by_cases h : k < j
        · exact HN.out k h
        · obtain rfl : k = j := by omega
          exact HC.out
    · obtain rfl : j = n := by omega
      have hr : l.contains c = false := by
        rw [← Bool.not_eq_true, List.contains_iff_mem]
        intro h
        obtain ⟨k, hk, e⟩ := List.mem_iff_getElem.1 h
        refine HN.out k (by rw [Hn.out]; exact hk) ?_
        rw [List.getD_eq_getElem?_getD, List.getElem?_eq_getElem hk]
        exact e
      have HRf := Lib.hid (HR.out.trans hr)
      have tj : decide ((j : Int) < (j : Int)) = false := by rw [decide_eq_false_iff_not]; omega
      clear hr
      go_wp2_with fail
      go_ret
      exact ⟨by rw [HRf.out]; rfl, rfl⟩
set_option maxRecDepth 100000 in
theorem ends_any (s t : Bs) (w : World) (hs : s.length ≤ 1000000) (ht : t.length ≤ 1000000) : Calls Tryd.prog 56 #[.string (bs s), .string (bs t)] w fun e w' => e = .returned (.bool (endsB s t)) ∧ w' = w := by
  have hz : (bs s).size = s.length := bs_size s
  have hz2 : (bs t).size = t.length := bs_size t
  by_cases h : t.length ≤ s.length
  · have hsl := fun W => str_from s (s.length - t.length) (by omega) W
    have he : endsB s t = ((bs (s.drop (s.length - t.length))).toList == (bs t).toList) := by
      unfold endsB
      rw [decide_eq_true h, Bool.true_and, bs_toList, bs_toList, Bool.eq_iff_iff]; simp
    rw [he]
    obtain ⟨X, hX⟩ : ∃ X, X = bs (s.drop (s.length - t.length)) := ⟨_, rfl⟩
    rw [← hX] at hsl ⊢
    clear hX he
    generalize bs s = S at *
    generalize bs t = T at *
    generalize s.length = n at *
    generalize t.length = m at *
    have hsl : ∀ W, (Instr.slice 9 (.string S) (some (.int .i64 ((n : Int) - (m : Int)))) none none).run Tryd.prog W = .ok (.string X) W := by
      intro W
      have := hsl W
      rw [show ((n - m : Nat) : Int) = (n : Int) - (m : Int) from by omega] at this
      exact this
    have tg : decide ((n : Int) ≥ (m : Int)) = true := by rw [decide_eq_true_eq]; omega
    go_enter Tryd.func56, Tryd.ntmps56
    go_wp2_with fail
    go_ret
    exact ⟨rfl, rfl⟩
  · have he : endsB s t = false := by
      unfold endsB
      rw [decide_eq_false h, Bool.false_and]
    rw [he]
    have tg : decide ((s.length : Int) ≥ (t.length : Int)) = false := by rw [decide_eq_false_iff_not]; omega
    clear he
    generalize bs s = S at *
    generalize bs t = T at *
    generalize s.length = n at *
    generalize t.length = m at *
    go_enter Tryd.func56, Tryd.ntmps56
    go_wp2_with fail
    go_ret
    exact ⟨rfl, rfl⟩
end Go.Proofs.YthilkpjdfjjikaaDoor
end
section
/-
  The document's small letter of a byte.
-/
namespace Go.Proofs.YthilkpjdfjjikaaDoor
open Go.RowKit

theorem conv_row (c : UInt8) (W : World) (g cap : Nat) (h : W.cell? ⟨g, 0, none⟩ = some (u8v c)) : (convert 92 9 (.slice (some ⟨g, 0, none⟩) 1 cap)).run Tryd.prog W = .ok (.string (bs [c])) W := by
  refine run_convert_bytes_back _ 92 9 5 ⟨g, 0, none⟩ cap [c] Tryd.underlying92 Tryd.underlying5 Tryd.underlying9 ?_
  intro j hj
  have hj0 : j = 0 := by simpa using hj
  subst hj0
  rw [add_eq]
  exact h
theorem two_cell (w : World) (o : Obj) (x : Value) (zs : Array Value) : ((w.alloc o).alloc (.cells (#[x] ++ zs) 5)).drew.cell? ⟨w.heap.size + 1, 0, none⟩ = some x := by
  have h : ((w.alloc o).alloc (.cells (#[x] ++ zs) 5)).drew.heap[w.heap.size + 1]? = some (.cells (#[x] ++ zs) 5 (0, 0)) := by
    have := heap_alloc_new (w.alloc o) (.cells (#[x] ++ zs) 5)
    rw [show (w.alloc o).heap.size = w.heap.size + 1 from by simp] at this
    exact this
  rw [cell_of_row _ _ 0 _ 5 (0, 0) h]
  rw [Array.getElem?_append_left (by simp)]
  rfl
set_option maxHeartbeats 2000000 in
set_option maxRecDepth 100000 in
theorem smallR_one (c : UInt8) (w : World) : Calls Tryd.prog 54 #[.string (bs [c])] w fun e w' => e = .returned (.string (bs [smallB c])) ∧ Below w.heap.size w w' := by
  have hn := small_nat c
  have hlt := c.toNat_lt
  have hz : (bs [c]).size = 1 := rfl
  have hx : ∀ W, (Instr.index 9 (.string (bs [c])) (.int .i64 0)).run Tryd.prog W = .ok (.int .u8 ((c.toNat : Nat) : Int)) W := fun W => str_byte [c] 0 (by simp) W
  have hcv := fun W g cap h => conv_row (smallB c) W g cap h
  unfold u8v at hcv
  obtain ⟨R, hR⟩ : ∃ R, R = bs [smallB c] := ⟨_, rfl⟩
  rw [← hR] at hcv ⊢
  generalize (smallB c).toNat = m at hn hcv
  generalize c.toNat = n at hn hlt hx
  have HCV := Lib.hid hcv
  generalize bs [c] = S at *
  clear hR hcv
  go_enter Tryd.func54, Tryd.ntmps54
  go_wp2_with fail
  go_loopw [3, 4] (fun b i wr => (i = .int .i64 0 ∧ b = .slice none 0 0 ∧ wr = w) ∨ (i = .int .i64 1 ∧ ∃ g cap, b = .slice (some ⟨g, 0, none⟩) 1 cap ∧ wr.cell? ⟨g, 0, none⟩ = some (.int .u8 (m : Int)) ∧ Below w.heap.size w wr)) (fun _ i _ => 1 - (intOf i).toNat)
  case atStart => exact .inl ⟨rfl, rfl, rfl⟩
  case round =>
    rcases hrel with ⟨rfl, rfl, rfl⟩ | ⟨rfl, g, cap, rfl, hcell, hB⟩
    · by_cases h : 65 ≤ n ∧ n ≤ 90
      · rw [if_pos h] at hn
        subst hn
        have t1 : decide ((n : Int) ≥ 65) = true := by rw [decide_eq_true_eq]; omega
        have t2 : decide ((n : Int) ≤ 90) = true := by rw [decide_eq_true_eq]; omega
        go_wp2_with fail
        refine ⟨.inr ⟨rfl, wr.heap.size + 1, _, rfl, ?_, (((Below.refl _ wr).alloc (Nat.le_refl _) _).alloc (by simp) _).drew⟩, by simp [intOf]⟩
        exact two_cell wr _ _ _
      · rw [if_neg h] at hn
        subst hn
        by_cases h1 : 65 ≤ m
        · have t1 : decide ((m : Int) ≥ 65) = true := by rw [decide_eq_true_eq]; omega
          have t2 : decide ((m : Int) ≤ 90) = false := by rw [decide_eq_false_iff_not]; omega
          go_wp2_with fail
          refine ⟨.inr ⟨rfl, wr.heap.size + 1, _, rfl, ?_, (((Below.refl _ wr).alloc (Nat.le_refl _) _).alloc (by simp) _).drew⟩, by simp [intOf]⟩
          exact two_cell wr _ _ _
        · have t1 : decide ((m : Int) ≥ 65) = false := by rw [decide_eq_false_iff_not]; omega
          go_wp2_with fail
          refine ⟨.inr ⟨rfl, wr.heap.size + 1, _, rfl, ?_, (((Below.refl _ wr).alloc (Nat.le_refl _) _).alloc (by simp) _).drew⟩, by simp [intOf]⟩
          exact two_cell wr _ _ _
    · have hc := HCV.out _ _ cap hcell
      go_wp2_with fail
      go_ret
      exact ⟨rfl, hB⟩
end Go.Proofs.YthilkpjdfjjikaaDoor
end
section
/-
  The document's machine: what a step shares.
-/
namespace Go.Proofs.YthilkpjdfjjikaaDoor
open Go.RowKit

/-- The states' names. -/
def stS : Nat → ByteArray
  | 0 => ⟨#[84, 101, 120, 116]⟩
  | 1 => ⟨#[79, 112, 101, 110]⟩
  | 2 => ⟨#[67, 108, 111, 115, 101]⟩
  | 3 => ⟨#[78, 97, 109, 101]⟩
  | 4 => ⟨#[69, 110, 100, 78, 97, 109, 101]⟩
  | 5 => ⟨#[84, 97, 103]⟩
  | 6 => ⟨#[65, 116, 116, 114]⟩
  | 7 => ⟨#[65, 102, 116, 101, 114]⟩
  | 8 => ⟨#[66, 101, 102, 111, 114, 101]⟩
  | 9 => ⟨#[86, 97, 108, 117, 101]⟩
  | 10 => ⟨#[66, 97, 114, 101]⟩
  | 11 => ⟨#[66, 97, 110, 103]⟩
  | _ => ⟨#[82, 97, 119]⟩
def wcells (w : Walk) : List Value := [.string (stS w.st), .string (bs w.el), .string (bs w.attr), .string (bs w.seen), u8v w.quote, .bool w.filled]
def walkV (w : Walk) : Value := .agg (wcells w).toArray
theorem results_c {fn : Func} {p : Tmp} {ty : TypeId} (h : fn.results = #[.cell p ty]) (tmps : Array Value) (P : Program) (w : World) (a : Addr) (v : Value) (hp : tmps.getD p undef = .pointer (some a)) (hl : (loadVar ty a).run P w = .ok v w) :
    (results fn tmps).run P w = .ok v w := by
  have hp' : tmps[p]?.getD undef = .pointer (some a) := by rw [← hp]; simp
  simp only [results, h]
  simp [Sem.run_bind, hp', asAddr, hl]
theorem load_walk (w : World) (g : Nat) (cs : Array Value) (hs : cs.size = 6) (hg : ∃ old : Array Value, w.heap[g]? = some (.cells old 69 (0, 0))) : (loadVar 69 ⟨g, 0, none⟩).run Tryd.prog (w.setRow g cs) = .ok (.agg cs) (w.setRow g cs) := by
  obtain ⟨old, h⟩ := hg
  exact run_loadVar_row _ g 69 69 cs (0, 0) _ (setRow_heap w g old cs 69 (0, 0) h) Tryd.underlying69 rfl (by rw [hs]; kernel_rfl)
/-- The byte's set: what is asked of it first. -/
theorem blank_one (c : UInt8) (w : World) : Calls Tryd.prog 53 #[u8v c, .string ⟨#[32, 9, 10, 12, 13]⟩] w fun e w' => e = .returned (.bool (blankB c)) ∧ w' = w := by
  rw [blank_contains]
  exact one_any c [32, 9, 10, 12, 13] w (by decide)
theorem conv_two (w : World) (A B : Obj) (c : UInt8) : (convert 92 9 (.slice (some ⟨w.heap.size + 1 + 1, 0, none⟩) 1 1)).run Tryd.prog (((w.alloc A).alloc B).alloc (.cells #[.int .u8 ((c.toNat : Nat) : Int)] 5)) = .ok (.string (bs [c])) (((w.alloc A).alloc B).alloc (.cells #[.int .u8 ((c.toNat : Nat) : Int)] 5)) := by
  have h := conv_one ((w.alloc A).alloc B) c.toNat c rfl
  rw [show ((w.alloc A).alloc B).heap.size = w.heap.size + 1 + 1 from by simp] at h
  exact h
/-- The two blocks of a step, behind what was laid and called. -/
theorem two_blocks {w w2 : World} (cs ds : Array Value) (o : Obj) (hb : Below (((w.alloc (.cells cs 69)).alloc (.cells ds 69)).alloc o).heap.size (((w.alloc (.cells cs 69)).alloc (.cells ds 69)).alloc o) w2) :
    Blk w2 w.heap.size 69 cs.toList ∧ Blk w2 (w.heap.size + 1) 69 ds.toList ∧ Below w.heap.size w w2 := by
  have h1 := hb.block w.heap.size (by simp; omega)
  have h2 := hb.block (w.heap.size + 1) (by simp)
  have e1 : (((w.alloc (.cells cs 69)).alloc (.cells ds 69)).alloc o).heap[w.heap.size]? = some (.cells cs 69 (0, 0)) := by
    rw [Below.heap_alloc _ o _ (by simp; omega), Below.heap_alloc _ _ _ (by simp)]
    exact heap_alloc_new w _
  have e2 : (((w.alloc (.cells cs 69)).alloc (.cells ds 69)).alloc o).heap[w.heap.size + 1]? = some (.cells ds 69 (0, 0)) := by
    rw [Below.heap_alloc _ o _ (by simp)]
    have := heap_alloc_new (w.alloc (.cells cs 69)) (.cells ds 69)
    rw [show (w.alloc (.cells cs 69)).heap.size = w.heap.size + 1 from by simp] at this
    exact this
  refine ⟨h1.trans e1, h2.trans e2, ?_⟩
  exact ((((Below.refl _ w).alloc (Nat.le_refl _) _).alloc (by simp) _).alloc (by simp; omega) _).trans (hb.mono (by simp; omega))
theorem far1 {w : World} {g : Nat} {t : TypeId} {cs : List Value} {p1 : Addr} {u1 : Value} (h : Blk w g t cs) (h1 : g ≠ p1.block) : (w.setCell p1 u1).heap[g]? = some (.cells cs.toArray t (0, 0)) := blk_far h h1 u1
theorem far2 {w : World} {g : Nat} {t : TypeId} {cs : List Value} {p1 p2 : Addr} {u1 u2 : Value} (h : Blk w g t cs) (h1 : g ≠ p1.block) (h2 : g ≠ p2.block) : ((w.setCell p1 u1).setCell p2 u2).heap[g]? = some (.cells cs.toArray t (0, 0)) := blk_far (blk_far h h1 u1) h2 u2
theorem far3 {w : World} {g : Nat} {t : TypeId} {cs : List Value} {p1 p2 p3 : Addr} {u1 u2 u3 : Value} (h : Blk w g t cs) (h1 : g ≠ p1.block) (h2 : g ≠ p2.block) (h3 : g ≠ p3.block) : (((w.setCell p1 u1).setCell p2 u2).setCell p3 u3).heap[g]? = some (.cells cs.toArray t (0, 0)) := blk_far (blk_far (blk_far h h1 u1) h2 u2) h3 u3
theorem b47 : blankB 47 = false := by decide
theorem b61 : blankB 61 = false := by decide
theorem l47 : letterB 47 = false := by decide
theorem l33 : letterB 33 = false := by decide
def zeroW : List Value := [.string ⟨#[]⟩, .string ⟨#[]⟩, .string ⟨#[]⟩, .string ⟨#[]⟩, .int .u8 0, .bool false]
end Go.Proofs.YthilkpjdfjjikaaDoor
end
