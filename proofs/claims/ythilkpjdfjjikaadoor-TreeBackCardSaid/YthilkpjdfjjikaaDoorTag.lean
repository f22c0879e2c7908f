/-
  lex.tag.
-/
import Derived.Deep.RegionLaw
import Derived.BigRegion
import Derived.Test.YthilkpjdfjjikaaDoorPthM
set_option linter.unusedVariables false
set_option linter.unusedSimpArgs false
namespace Go.Proofs.YthilkpjdfjjikaaDoor
open Go.RowKit

def sepN (x : Nat) : Bool := x == 32 || x == 9 || x == 10 || x == 13
def wordsL (s : Bs) : List Bs := (Lib.goFieldsP sepN (bs s)).map (·.data.toList)
structure Piece where
  kind : Nat
  pos : Nat
  text : Bs
  path : List Bs
  name : Bs
  place : Nat
/-- What a tag says: the piece, without its place; none: it is no tag. -/
def tagL (s : Bs) : Option Piece :=
  match wordsL s with
  | [a] => if a = [101, 108, 115, 101] then some ⟨5, 0, [], [], [], 0⟩ else if a = [101, 110, 100] then some ⟨6, 0, [], [], [], 0⟩ else (pathL a).map fun l => ⟨1, 0, [], l, [], 0⟩
  | [a, b] => if a = [104, 116, 109, 108] then (pathL b).map fun l => ⟨2, 0, [], l, [], 0⟩ else if a = [105, 102] then (pathL b).map fun l => ⟨4, 0, [], l, [], 0⟩ else none
  | [a, b, c, d] => if a = [102, 111, 114] ∧ c = [105, 110] ∧ nameB b = true then (pathL d).map fun l => ⟨3, 0, [], l, b, 0⟩ else none
  | _ => none
theorem sep_any (x : Nat) (W : World) (_hp : x ≤ 1114111) : Calls Tryd.prog 47 #[.int .i32 x] W fun e w' => e = .returned (.bool (sepN x)) ∧ Below W.heap.size W w' := by
  go_enter Tryd.func47, Tryd.ntmps47
  go_wp2_with fail
  all_goals go_ret
  all_goals refine ⟨congrArg (fun b => Ending.returned (Value.bool b)) ?_, Below.refl _ _⟩
  all_goals unfold sepN
  all_goals rw [Bool.eq_iff_iff]
  all_goals simp
  all_goals omega
theorem words_le (s : Bs) : ∀ x ∈ wordsL s, x.length ≤ s.length := by
  intro x hx
  obtain ⟨y, hy, rfl⟩ := List.mem_map.1 hx
  unfold Lib.goFieldsP at hy
  obtain ⟨z, _, rfl⟩ := List.mem_map.1 hy
  have : ((bs s).extract z.1 z.2).size ≤ (bs s).size := by rw [ByteArray.size_extract]; omega
  rw [bs_size] at this
  exact this
theorem words_cells (s : Bs) : (Lib.goFieldsP sepN (bs s)).map Value.string = strs (wordsL s) := by
  unfold strs wordsL
  rw [List.map_map]
  rfl
/-- What a call leaves: the piece's cells. -/
def pcells (k : Nat) (pv : Value) (nm : Bs) : Array Value := #[.int .i64 ((k : Nat) : Int), .int .i64 0, .string (bs []), pv, .string (bs nm), .int .i64 0]
def TagR (w' : World) (B : Nat) (k : Nat) (pv : Value) (nm : Bs) (ok : Bool) : Option Piece → Prop
  | none => ok = false ∧ pv = .slice none 0 0
  | some p => ok = true ∧ k = p.kind ∧ nm = p.name ∧ w'.ownsRow B 9 1 pv p.path.length (strs p.path)
def zero6 : List Value := [.int .i64 0, .int .i64 0, .string ⟨#[]⟩, .slice none 0 0, .string ⟨#[]⟩, .int .i64 0]
theorem zero_block {w w1 : World} (hb : Below (w.alloc (.cells #[.int .i64 0, .int .i64 0, .string ⟨#[]⟩, .slice none 0 0, .string ⟨#[]⟩, .int .i64 0] 35)).heap.size (w.alloc (.cells #[.int .i64 0, .int .i64 0, .string ⟨#[]⟩, .slice none 0 0, .string ⟨#[]⟩, .int .i64 0] 35)) w1) : Blk w1 w.heap.size 35 zero6 ∧ w.heap.size < w1.heap.size := by
  have h1 := hb.size
  have h2 := hb.block w.heap.size (by simp)
  refine ⟨h2.trans (heap_alloc_new w _), ?_⟩
  simp at h1; omega
theorem zero_facts {w1 : World} {g : Nat} (h : Blk w1 g 35 zero6) : w1.cell? ⟨g, 0, none⟩ = some (.int .i64 0) ∧ w1.cell? ⟨g, 1, none⟩ = some (.int .i64 0) ∧ w1.cell? ⟨g, 2, none⟩ = some (.string ⟨#[]⟩) ∧ w1.cell? ⟨g, 3, none⟩ = some (.slice none 0 0) ∧ w1.cell? ⟨g, 4, none⟩ = some (.string ⟨#[]⟩) ∧ w1.cell? ⟨g, 5, none⟩ = some (.int .i64 0) ∧
    w1.frozen? ⟨g, 0, none⟩ = false ∧ w1.frozen? ⟨g, 1, none⟩ = false ∧ w1.frozen? ⟨g, 2, none⟩ = false ∧ w1.frozen? ⟨g, 3, none⟩ = false ∧ w1.frozen? ⟨g, 4, none⟩ = false ∧ w1.frozen? ⟨g, 5, none⟩ = false :=
  ⟨blk_cell h 0, blk_cell h 1, blk_cell h 2, blk_cell h 3, blk_cell h 4, blk_cell h 5, blk_frozen h 0, blk_frozen h 1, blk_frozen h 2, blk_frozen h 3, blk_frozen h 4, blk_frozen h 5⟩
theorem results_ct {fn : Func} {p t : Tmp} {ty : TypeId} (h : fn.results = #[.cell p ty, .tmp t]) (tmps : Array Value) (P : Program) (w : World) (a : Addr) (v : Value) (hp : tmps.getD p undef = .pointer (some a)) (hl : (loadVar ty a).run P w = .ok v w) :
    (results fn tmps).run P w = .ok (.tuple #[v, tmps.getD t undef]) w := by
  have hp' : tmps[p]?.getD undef = .pointer (some a) := by rw [← hp]; simp
  simp only [results, h]
  simp [Sem.run_bind, hp', asAddr, hl]
theorem setRow_heap (w : World) (g : Nat) (cs new : Array Value) (t : TypeId) (fr : Nat × Nat) (h : w.heap[g]? = some (.cells cs t fr)) : (w.setRow g new).heap[g]? = some (.cells new t fr) := by
  simp [World.setRow, Array.getElem?_modify, h]
theorem below_setRow {B : Nat} {w0 w : World} {g : Nat} (hb : Below B w0 w) (hg : B ≤ g) (cs : Array Value) : Below B w0 (w.setRow g cs) :=
  ⟨hb.os, hb.tape, hb.output, by simpa [World.setRow] using hb.size, fun k hk => by
    rw [← hb.block k hk]
    simp only [World.setRow, Array.getElem?_modify]
    rw [if_neg (by omega)]⟩
/-- The result's block, loaded. -/
theorem load_res (w : World) (g : Nat) (cs : Array Value) (hs : cs.size = 6) (hg : ∃ old : Array Value, w.heap[g]? = some (.cells old 35 (0, 0))) : (loadVar 35 ⟨g, 0, none⟩).run Tryd.prog (w.setRow g cs) = .ok (.agg cs) (w.setRow g cs) := by
  obtain ⟨old, h⟩ := hg
  exact run_loadVar_row _ g 35 35 cs (0, 0) _ (setRow_heap w g old cs 35 (0, 0) h) Tryd.underlying35 rfl (by rw [hs]; kernel_rfl)
theorem step_store_row {P : Program} {ops : Array Oper} {o : Oper} {a : Act} {w : World} {K : Act → World → Prop} {Q : Exit → Act → World → Prop} {E : Prop} (hgd : o.guard = none) (ty : TypeId) (x y : Operand) (ho : o.op = .store ty x y)
    (g : Nat) (cells : Array Value) (hx : a.eval x = .pointer (some ⟨g, 0, none⟩)) (hy : a.eval y = .agg cells)
    (t : TypeId) (old : Array Value) (hg : w.heap[g]? = some (.cells old t (0, 0))) (hi : (P.info? ty).map (·.size) = some cells.size)
    (hold : old.size = cells.size) (h1 : cells.all (·.oneCell') = true)
    (h : K (a.put o.dst undef) (w.setRow g cells)) : if Region.wanted o (yielded ops a.tmps) = true then Oper.wp P o a w K Q else E := by
  rw [if_pos (by simp [Region.wanted, hgd])]
  exact wp_store_row ty x y ho g cells hx hy t old hg hi hold h1 h
theorem setRow_far (W : World) (g : Nat) (cs : Array Value) (p : Addr) (h : g ≠ p.block) : (W.setRow g cs).cell? p = W.cell? p := by
  simp only [World.cell?, World.setRow, Array.getElem?_modify]
  rw [if_neg h]
theorem own_far {w : World} {B size n : Nat} {e : TypeId} {v : Value} {xs : List Value} (h : w.ownsRow B e size v n xs) (p : Addr) (u : Value) (hp : p.block < B) : (w.setCell p u).ownsRow B e size v n xs := by
  refine ⟨h.1, ?_⟩
  rcases h.2 with hn | ⟨g, cap, cur, rfl, h1, h2, r⟩
  · exact .inl hn
  · exact .inr ⟨g, cap, cur, rfl, h1, (Below.heap_setCell w p u g (by omega)).trans h2, r⟩
theorem setCell_away {W : World} {q p : Addr} {v u : Value} (h : W.cell? q = some v) (hp : p.block ≠ q.block) : (W.setCell p u).cell? q = some v := by
  rw [← h]
  simp only [World.cell?]
  rw [Below.heap_setCell W p u q.block (fun e => hp e.symm)]

set_option maxHeartbeats 4000000 in
set_option maxRecDepth 100000 in
theorem tag_none (s : Bs) (w : World) (hl : s.length ≤ 1000000) (hn : (wordsL s).length ≠ 1 ∧ (wordsL s).length ≠ 2 ∧ (wordsL s).length ≠ 4) :
    Calls Tryd.prog 29 #[.string (bs s)] w fun e w' => (∃ k pv nm ok, e = .returned (.tuple #[.agg (pcells k pv nm), .bool ok]) ∧ ok = false ∧ pv = .slice none 0 0) ∧ Below w.heap.size w w' := by
  have hff := fun W : World => Tryd.strings_FieldsFunc_grows 47 #[] (by intro args w; exact enters_of Tryd.func47 (by kernel_rfl) rfl args w) sepN (bs s) W (by rw [bs_size]; omega) (fun W' x hx _ => sep_any x W' hx)
  have hlen : (Lib.goFieldsP sepN (bs s)).length = (wordsL s).length := by unfold wordsL; rw [List.length_map]
  simp only [words_cells, hlen] at hff
  obtain ⟨L, hL⟩ : ∃ L, L = wordsL s := ⟨_, rfl⟩
  rw [← hL] at hn
  simp only [← hL] at hff
  have HFF := Lib.hid hff
  clear hff hL hlen
  obtain ⟨n, hne⟩ : ∃ n, n = L.length := ⟨_, rfl⟩
  rw [← hne] at hn HFF
  clear hne
  obtain ⟨n1, n2, n4⟩ := hn
  have t1 : ((n : Int) == 1) = false := by rw [beq_eq_false_iff_ne]; omega
  have t2 : ((n : Int) == 2) = false := by rw [beq_eq_false_iff_ne]; omega
  have t4 : ((n : Int) == 4) = false := by rw [beq_eq_false_iff_ne]; omega
  go_enter Tryd.func29, Tryd.ntmps29
  go_wp2_with (first | (refine wpList_store_row rfl 35 (.tmp 2) (.tmp 9) rfl w.heap.size #[_, _, _, _, _, _] rfl rfl 35 _ (blk_alloc HZ.out _) (by kernel_rfl) rfl (by simp [Value.oneCell']) ?_) | (go_at_call 46; refine (HFF.out _).mono ?_; rintro e w1 ⟨A, rfl, hA, ho, hb1⟩; obtain ⟨hzb, hG⟩ := zero_block hb1; have hA2 := (ho.lt A rfl).2; have HB1 := Lib.hid hb1; have HO := Lib.hid ho; clear hb1 ho hA; have HZ := Lib.hid hzb; clear hzb))
  have hbw : Below w.heap.size w w1 := ((Below.refl _ w).alloc (Nat.le_refl _) _).trans (HB1.out.mono (by simp))
  refine bodyPost_ret (v := .tuple #[.agg (pcells 0 (.slice none 0 0) []), .bool false]) (results_ct Tryd.results29 _ _ _ ⟨w.heap.size, 0, none⟩ _ rfl (load_res _ w.heap.size _ rfl ⟨_, blk_alloc HZ.out _⟩)) rfl ?_
  exact ⟨⟨_, _, _, _, rfl, rfl, rfl⟩, below_setRow (hbw.alloc (Nat.le_of_lt hG) _) (Nat.le_refl _) _⟩
set_option maxHeartbeats 4000000 in
set_option maxRecDepth 100000 in
theorem tag_else (s : Bs) (hw : wordsL s = [[101, 108, 115, 101]]) (w : World) (hT : Tabs w) (hl : s.length ≤ 1000000) :
    Calls Tryd.prog 29 #[.string (bs s)] w fun e w' => (∃ k pv nm ok, e = .returned (.tuple #[.agg (pcells k pv nm), .bool ok]) ∧ TagR w' w.heap.size k pv nm ok (tagL s)) ∧ Below w.heap.size w w' := by
  have hff := fun W : World => Tryd.strings_FieldsFunc_grows 47 #[] (by intro args w; exact enters_of Tryd.func47 (by kernel_rfl) rfl args w) sepN (bs s) W (by rw [bs_size]; omega) (fun W' x hx _ => sep_any x W' hx)
  have hlen : (Lib.goFieldsP sepN (bs s)).length = (wordsL s).length := by unfold wordsL; rw [List.length_map]
  simp only [words_cells, hlen, hw] at hff
  have HFF := Lib.hid (show ∀ W : World, Calls Tryd.prog 46 #[.string (bs s), .func (.func 47) #[] #[]] W fun e w' => ∃ A, e = .returned (.slice (some ⟨A, 0, none⟩) 1 1) ∧ W.heap.size ≤ A ∧ w'.ownsRow W.heap.size 9 1 (.slice (some ⟨A, 0, none⟩) 1 1) 1 (strs [[101, 108, 115, 101]]) ∧ Below W.heap.size W w' from hff)
  clear hff hlen
  have q1 := eq_bs [101, 108, 115, 101] [101, 108, 115, 101]
  rw [show (([101, 108, 115, 101] : Bs) == [101, 108, 115, 101]) = true from rfl] at q1
  have ht : tagL s = some ⟨5, 0, [], [], [], 0⟩ := by unfold tagL; rw [hw]; rfl
  rw [ht]
  clear ht hw
  go_enter Tryd.func29, Tryd.ntmps29
  go_wp2_with (first | (refine wpList_store_row rfl 35 (.tmp 2) (.tmp 21) rfl w.heap.size #[_, _, _, _, _, _] rfl rfl 35 _ (blk_alloc HZ.out _) (by kernel_rfl) rfl (by simp [Value.oneCell']) ?_) | (go_at_call 46; refine (HFF.out _).mono ?_; rintro e w1 ⟨A, rfl, hA, ho, hb1⟩; obtain ⟨hzb, hG⟩ := zero_block hb1; have hA2 := (ho.lt A rfl).2; have wc0 : w1.cell? ⟨A, 0, none⟩ = some (.string (bs [101, 108, 115, 101])) := ho.cellAt 0 (by decide); have HB1 := Lib.hid hb1; have HO := Lib.hid ho; clear hb1 ho hA; have HZ := Lib.hid hzb; clear hzb))
  have hbw : Below w.heap.size w w1 := ((Below.refl _ w).alloc (Nat.le_refl _) _).trans (HB1.out.mono (by simp))
  refine bodyPost_ret (v := .tuple #[.agg (pcells 5 (.slice none 0 0) []), .bool true]) (results_ct Tryd.results29 _ _ _ ⟨w.heap.size, 0, none⟩ _ rfl (load_res _ w.heap.size _ rfl ⟨_, blk_alloc HZ.out _⟩)) rfl ?_
  exact ⟨⟨_, _, _, _, rfl, rfl, rfl, rfl, World.ownsRow_nil _ _ _ _⟩, below_setRow (hbw.alloc (Nat.le_of_lt hG) _) (Nat.le_refl _) _⟩
set_option maxHeartbeats 4000000 in
set_option maxRecDepth 100000 in
theorem tag_end (s : Bs) (hw : wordsL s = [[101, 110, 100]]) (w : World) (hT : Tabs w) (hl : s.length ≤ 1000000) :
    Calls Tryd.prog 29 #[.string (bs s)] w fun e w' => (∃ k pv nm ok, e = .returned (.tuple #[.agg (pcells k pv nm), .bool ok]) ∧ TagR w' w.heap.size k pv nm ok (tagL s)) ∧ Below w.heap.size w w' := by
  have hff := fun W : World => Tryd.strings_FieldsFunc_grows 47 #[] (by intro args w; exact enters_of Tryd.func47 (by kernel_rfl) rfl args w) sepN (bs s) W (by rw [bs_size]; omega) (fun W' x hx _ => sep_any x W' hx)
  have hlen : (Lib.goFieldsP sepN (bs s)).length = (wordsL s).length := by unfold wordsL; rw [List.length_map]
  simp only [words_cells, hlen, hw] at hff
  have HFF := Lib.hid (show ∀ W : World, Calls Tryd.prog 46 #[.string (bs s), .func (.func 47) #[] #[]] W fun e w' => ∃ A, e = .returned (.slice (some ⟨A, 0, none⟩) 1 1) ∧ W.heap.size ≤ A ∧ w'.ownsRow W.heap.size 9 1 (.slice (some ⟨A, 0, none⟩) 1 1) 1 (strs [[101, 110, 100]]) ∧ Below W.heap.size W w' from hff)
  clear hff hlen
  have q1 := eq_bs [101, 110, 100] [101, 108, 115, 101]
  rw [show (([101, 110, 100] : Bs) == [101, 108, 115, 101]) = false from rfl] at q1
  have q2 := eq_bs [101, 110, 100] [101, 110, 100]
  rw [show (([101, 110, 100] : Bs) == [101, 110, 100]) = true from rfl] at q2
  have ht : tagL s = some ⟨6, 0, [], [], [], 0⟩ := by unfold tagL; rw [hw]; rfl
  rw [ht]
  clear ht hw
  go_enter Tryd.func29, Tryd.ntmps29
  go_wp2_with (first | (refine wpList_store_row rfl 35 (.tmp 2) (.tmp 33) rfl w.heap.size #[_, _, _, _, _, _] rfl rfl 35 _ (blk_alloc HZ.out _) (by kernel_rfl) rfl (by simp [Value.oneCell']) ?_) | (go_at_call 46; refine (HFF.out _).mono ?_; rintro e w1 ⟨A, rfl, hA, ho, hb1⟩; obtain ⟨hzb, hG⟩ := zero_block hb1; have hA2 := (ho.lt A rfl).2; have wc0 : w1.cell? ⟨A, 0, none⟩ = some (.string (bs [101, 110, 100])) := ho.cellAt 0 (by decide); have HB1 := Lib.hid hb1; have HO := Lib.hid ho; clear hb1 ho hA; have HZ := Lib.hid hzb; clear hzb))
  have hbw : Below w.heap.size w w1 := ((Below.refl _ w).alloc (Nat.le_refl _) _).trans (HB1.out.mono (by simp))
  refine bodyPost_ret (v := .tuple #[.agg (pcells 6 (.slice none 0 0) []), .bool true]) (results_ct Tryd.results29 _ _ _ ⟨w.heap.size, 0, none⟩ _ rfl (load_res _ w.heap.size _ rfl ⟨_, blk_alloc HZ.out _⟩)) rfl ?_
  exact ⟨⟨_, _, _, _, rfl, rfl, rfl, rfl, World.ownsRow_nil _ _ _ _⟩, below_setRow (hbw.alloc (Nat.le_of_lt hG) _) (Nat.le_refl _) _⟩
set_option maxHeartbeats 4000000 in
set_option maxRecDepth 100000 in
theorem tag_insert (s : Bs) (a : Bs) (hw : wordsL s = [a]) (h1 : a ≠ [101, 108, 115, 101]) (h2 : a ≠ [101, 110, 100]) (w : World) (hT : Tabs w) (hl : s.length ≤ 1000000) :
    Calls Tryd.prog 29 #[.string (bs s)] w fun e w' => (∃ k pv nm ok, e = .returned (.tuple #[.agg (pcells k pv nm), .bool ok]) ∧ TagR w' w.heap.size k pv nm ok (tagL s)) ∧ Below w.heap.size w w' := by
  have hff := fun W : World => Tryd.strings_FieldsFunc_grows 47 #[] (by intro args w; exact enters_of Tryd.func47 (by kernel_rfl) rfl args w) sepN (bs s) W (by rw [bs_size]; omega) (fun W' x hx _ => sep_any x W' hx)
  have hlen : (Lib.goFieldsP sepN (bs s)).length = (wordsL s).length := by unfold wordsL; rw [List.length_map]
  simp only [words_cells, hlen, hw] at hff
  have HFF := Lib.hid (show ∀ W : World, Calls Tryd.prog 46 #[.string (bs s), .func (.func 47) #[] #[]] W fun e w' => ∃ A, e = .returned (.slice (some ⟨A, 0, none⟩) 1 1) ∧ W.heap.size ≤ A ∧ w'.ownsRow W.heap.size 9 1 (.slice (some ⟨A, 0, none⟩) 1 1) 1 (strs [a]) ∧ Below W.heap.size W w' from hff)
  clear hff hlen
  have q1 := eq_bs a [101, 108, 115, 101]
  rw [show (a == [101, 108, 115, 101]) = false from beq_eq_false_iff_ne.2 h1] at q1
  have q2 := eq_bs a [101, 110, 100]
  rw [show (a == [101, 110, 100]) = false from beq_eq_false_iff_ne.2 h2] at q2
  have ht : tagL s = (pathL a).map fun l => ⟨1, 0, [], l, [], 0⟩ := by unfold tagL; rw [hw]; dsimp only; rw [if_neg h1, if_neg h2]
  have hal : a.length ≤ 1000000 := by have := words_le s a (by rw [hw]; simp); omega
  rw [ht]
  have hP := fun (W : World) (hb : Below w.heap.size w W) => path_any a W (hT.below hb) hal
  obtain ⟨PL, hPL⟩ : ∃ PL, PL = pathL a := ⟨_, rfl⟩
  simp only [← hPL] at hP ⊢
  clear hPL
  have HP := Lib.hid hP; clear hP
  clear ht hw h1 h2 hal
  go_enter Tryd.func29, Tryd.ntmps29
  go_wp2_with (go_at_call 46; refine (HFF.out _).mono ?_; rintro e w1 ⟨A, rfl, hA, ho, hb1⟩; obtain ⟨hzb, hG⟩ := zero_block hb1; have hA2 := (ho.lt A rfl).2; have wc0 : w1.cell? ⟨A, 0, none⟩ = some (.string (bs a)) := ho.cellAt 0 (by decide); have HB1 := Lib.hid hb1; have HO := Lib.hid ho; clear hb1 ho hA; have HZ := Lib.hid hzb; clear hzb)
  have hbw : Below w.heap.size w w1 := ((Below.refl _ w).alloc (Nat.le_refl _) _).trans (HB1.out.mono (by simp))
  refine (HP.out _ (hbw.alloc (Nat.le_of_lt hG) _)).mono ?_
  rintro e w2 ⟨v, rfl, hpv, hb2⟩
  have hg5 : Blk w2 w1.heap.size 35 [.int .i64 1, .int .i64 0, .string ⟨#[]⟩, .slice none 0 0, .string ⟨#[]⟩, .int .i64 0] := (hb2.block w1.heap.size (by simp)).trans (heap_alloc_new w1 _)
  have hz2 : Blk w2 w.heap.size 35 zero6 := (hb2.block w.heap.size (by simp; omega)).trans (blk_alloc HZ.out _)
  have hs2 : w1.heap.size < w2.heap.size := blk_lt hg5
  have hbA : Below w.heap.size w w2 := (hbw.alloc (Nat.le_of_lt hG) _).trans (hb2.mono (by simp; omega))
  have d0 := blk_cell hg5 0; have d1 := blk_cell hg5 1; have d2 := blk_cell hg5 2; have d3 := blk_cell hg5 3; have d4 := blk_cell hg5 4; have d5 := blk_cell hg5 5
  have e3 := blk_frozen hg5 3
  simp only [List.getElem?_cons_zero, List.getElem?_cons_succ] at d0 d1 d2 d3 d4 d5
  obtain ⟨G5, hG5⟩ : ∃ G5, G5 = w1.heap.size := ⟨_, rfl⟩
  obtain ⟨G2, hG2⟩ : ∃ G2, G2 = w.heap.size := ⟨_, rfl⟩
  have hgg : G2 < G5 := by omega
  have HZ2 := Lib.hid hz2; have HBA := Lib.hid hbA
  have hle : w.heap.size ≤ w1.heap.size := by omega
  have hne5 : w.heap.size ≠ w1.heap.size := by omega
  have hne6 : w1.heap.size ≠ w.heap.size := by omega
  obtain ⟨zc0, zc1, zc2, zc3, zc4, zc5, zf0, zf1, zf2, zf3, zf4, zf5⟩ := zero_facts HZ2.out
  have hrow := fun (W : World) (cs : Array Value) => setRow_far W w.heap.size cs ⟨w1.heap.size, 3, none⟩ hne5
  clear hz2 hb2 hbA wc0 hA2 hbw
  cases PL with
  | none =>
    obtain rfl : v = .slice none 0 0 := hpv
    go_wp2_with fail
    go_region
    all_goals go_wp2_with fail
    all_goals refine bodyPost_ret (v := .tuple #[.agg (pcells 1 (.slice none 0 0) []), .bool false]) (results_ct Tryd.results29 _ _ _ ⟨w.heap.size, 0, none⟩ _ rfl (run_loadVar_row _ w.heap.size 35 35 (pcells 1 (.slice none 0 0) []) (0, 0) _ (blk_drew (blk_set (blk_set (blk_set (blk_set (blk_set (blk_set (blk_far HZ2.out hne5 _) 0 _) 1 _) 2 _) 3 _) 4 _) 5 _)) Tryd.underlying35 rfl (by kernel_rfl))) rfl ?_
    all_goals exact ⟨⟨_, _, _, _, rfl, rfl, rfl⟩, ((((((((HBA.out.setCell hle _).setCell (Nat.le_refl _) _).setCell (Nat.le_refl _) _).setCell (Nat.le_refl _) _).setCell (Nat.le_refl _) _).setCell (Nat.le_refl _) _).setCell (Nat.le_refl _) _)).drew⟩
  | some L =>
    obtain ⟨⟨pb, rfl⟩, hown⟩ := hpv
    have HPO := Lib.hid hown
    clear hown
    go_wp2_with fail
    go_region
    all_goals go_wp2_with fail
    all_goals refine bodyPost_ret (v := .tuple #[.agg (pcells 1 (.slice (some ⟨pb, 0, none⟩) L.length L.length) []), .bool true]) (results_ct Tryd.results29 _ _ _ ⟨w.heap.size, 0, none⟩ _ rfl (run_loadVar_row _ w.heap.size 35 35 (pcells 1 (.slice (some ⟨pb, 0, none⟩) L.length L.length) []) (0, 0) _ (blk_drew (blk_set (blk_set (blk_set (blk_set (blk_set (blk_set (blk_far HZ2.out hne5 _) 0 _) 1 _) 2 _) 3 _) 4 _) 5 _)) Tryd.underlying35 rfl (by kernel_rfl))) rfl ?_
    all_goals refine ⟨⟨_, _, _, _, rfl, rfl, rfl, rfl, ?_⟩, ((((((((HBA.out.setCell hle _).setCell (Nat.le_refl _) _).setCell (Nat.le_refl _) _).setCell (Nat.le_refl _) _).setCell (Nat.le_refl _) _).setCell (Nat.le_refl _) _).setCell (Nat.le_refl _) _)).drew⟩
    all_goals exact own_base (own_drew (own_far (own_far (own_far (own_far (own_far (own_far (own_far HPO.out _ _ (by simp)) _ _ (by simp; omega)) _ _ (by simp; omega)) _ _ (by simp; omega)) _ _ (by simp; omega)) _ _ (by simp; omega)) _ _ (by simp; omega))) (by simp; omega)
set_option maxHeartbeats 4000000 in
set_option maxRecDepth 100000 in
theorem tag_html (s : Bs) (a b : Bs) (hw : wordsL s = [a, b]) (h1 : a = [104, 116, 109, 108]) (w : World) (hT : Tabs w) (hl : s.length ≤ 1000000) :
    Calls Tryd.prog 29 #[.string (bs s)] w fun e w' => (∃ k pv nm ok, e = .returned (.tuple #[.agg (pcells k pv nm), .bool ok]) ∧ TagR w' w.heap.size k pv nm ok (tagL s)) ∧ Below w.heap.size w w' := by
  have hff := fun W : World => Tryd.strings_FieldsFunc_grows 47 #[] (by intro args w; exact enters_of Tryd.func47 (by kernel_rfl) rfl args w) sepN (bs s) W (by rw [bs_size]; omega) (fun W' x hx _ => sep_any x W' hx)
  have hlen : (Lib.goFieldsP sepN (bs s)).length = (wordsL s).length := by unfold wordsL; rw [List.length_map]
  simp only [words_cells, hlen, hw] at hff
  have HFF := Lib.hid (show ∀ W : World, Calls Tryd.prog 46 #[.string (bs s), .func (.func 47) #[] #[]] W fun e w' => ∃ A, e = .returned (.slice (some ⟨A, 0, none⟩) 2 2) ∧ W.heap.size ≤ A ∧ w'.ownsRow W.heap.size 9 1 (.slice (some ⟨A, 0, none⟩) 2 2) 2 (strs [a, b]) ∧ Below W.heap.size W w' from hff)
  clear hff hlen
  have q1 := eq_bs a [104, 116, 109, 108]
  rw [show (a == [104, 116, 109, 108]) = true from beq_iff_eq.2 h1] at q1
  have ht : tagL s = (pathL b).map fun l => ⟨2, 0, [], l, [], 0⟩ := by unfold tagL; rw [hw]; dsimp only; rw [if_pos h1]
  have hal : b.length ≤ 1000000 := by have := words_le s b (by rw [hw]; simp); omega
  rw [ht]
  have hP := fun (W : World) (hb : Below w.heap.size w W) => path_any b W (hT.below hb) hal
  obtain ⟨PL, hPL⟩ : ∃ PL, PL = pathL b := ⟨_, rfl⟩
  simp only [← hPL] at hP ⊢
  clear hPL
  have HP := Lib.hid hP; clear hP
  clear ht hw hal h1
  go_enter Tryd.func29, Tryd.ntmps29
  go_wp2_with (go_at_call 46; refine (HFF.out _).mono ?_; rintro e w1 ⟨A, rfl, hA, ho, hb1⟩; obtain ⟨hzb, hG⟩ := zero_block hb1; have hA2 := (ho.lt A rfl).2; have wc0 : w1.cell? ⟨A, 0, none⟩ = some (.string (bs a)) := ho.cellAt 0 (by decide); have wc1 : w1.cell? ⟨A, 1, none⟩ = some (.string (bs b)) := ho.cellAt 1 (by decide); have HB1 := Lib.hid hb1; have HO := Lib.hid ho; clear hb1 ho hA; have HZ := Lib.hid hzb; clear hzb)
  have hbw : Below w.heap.size w w1 := ((Below.refl _ w).alloc (Nat.le_refl _) _).trans (HB1.out.mono (by simp))
  refine (HP.out _ (hbw.alloc (Nat.le_of_lt hG) _)).mono ?_
  rintro e w2 ⟨v, rfl, hpv, hb2⟩
  have hg5 : Blk w2 w1.heap.size 35 [.int .i64 2, .int .i64 0, .string ⟨#[]⟩, .slice none 0 0, .string ⟨#[]⟩, .int .i64 0] := (hb2.block w1.heap.size (by simp)).trans (heap_alloc_new w1 _)
  have hz2 : Blk w2 w.heap.size 35 zero6 := (hb2.block w.heap.size (by simp; omega)).trans (blk_alloc HZ.out _)
  have hs2 : w1.heap.size < w2.heap.size := blk_lt hg5
  have hbA : Below w.heap.size w w2 := (hbw.alloc (Nat.le_of_lt hG) _).trans (hb2.mono (by simp; omega))
  have d0 := blk_cell hg5 0; have d1 := blk_cell hg5 1; have d2 := blk_cell hg5 2; have d3 := blk_cell hg5 3; have d4 := blk_cell hg5 4; have d5 := blk_cell hg5 5
  have e3 := blk_frozen hg5 3
  simp only [List.getElem?_cons_zero, List.getElem?_cons_succ] at d0 d1 d2 d3 d4 d5
  obtain ⟨G5, hG5⟩ : ∃ G5, G5 = w1.heap.size := ⟨_, rfl⟩
  obtain ⟨G2, hG2⟩ : ∃ G2, G2 = w.heap.size := ⟨_, rfl⟩
  have hgg : G2 < G5 := by omega
  have HZ2 := Lib.hid hz2; have HBA := Lib.hid hbA
  have hle : w.heap.size ≤ w1.heap.size := by omega
  have hne5 : w.heap.size ≠ w1.heap.size := by omega
  have hne6 : w1.heap.size ≠ w.heap.size := by omega
  obtain ⟨zc0, zc1, zc2, zc3, zc4, zc5, zf0, zf1, zf2, zf3, zf4, zf5⟩ := zero_facts HZ2.out
  have hrow := fun (W : World) (cs : Array Value) => setRow_far W w.heap.size cs ⟨w1.heap.size, 3, none⟩ hne5
  clear hz2 hb2 hbA wc0 wc1 hA2 hbw
  cases PL with
  | none =>
    obtain rfl : v = .slice none 0 0 := hpv
    go_wp2_with fail
    go_region
    all_goals go_wp2_with fail
    all_goals refine bodyPost_ret (v := .tuple #[.agg (pcells 2 (.slice none 0 0) []), .bool false]) (results_ct Tryd.results29 _ _ _ ⟨w.heap.size, 0, none⟩ _ rfl (run_loadVar_row _ w.heap.size 35 35 (pcells 2 (.slice none 0 0) []) (0, 0) _ (blk_drew (blk_set (blk_set (blk_set (blk_set (blk_set (blk_set (blk_far HZ2.out hne5 _) 0 _) 1 _) 2 _) 3 _) 4 _) 5 _)) Tryd.underlying35 rfl (by kernel_rfl))) rfl ?_
    all_goals exact ⟨⟨_, _, _, _, rfl, rfl, rfl⟩, ((((((((HBA.out.setCell hle _).setCell (Nat.le_refl _) _).setCell (Nat.le_refl _) _).setCell (Nat.le_refl _) _).setCell (Nat.le_refl _) _).setCell (Nat.le_refl _) _).setCell (Nat.le_refl _) _)).drew⟩
  | some L =>
    obtain ⟨⟨pb, rfl⟩, hown⟩ := hpv
    have HPO := Lib.hid hown
    clear hown
    go_wp2_with fail
    go_region
    all_goals go_wp2_with fail
    all_goals refine bodyPost_ret (v := .tuple #[.agg (pcells 2 (.slice (some ⟨pb, 0, none⟩) L.length L.length) []), .bool true]) (results_ct Tryd.results29 _ _ _ ⟨w.heap.size, 0, none⟩ _ rfl (run_loadVar_row _ w.heap.size 35 35 (pcells 2 (.slice (some ⟨pb, 0, none⟩) L.length L.length) []) (0, 0) _ (blk_drew (blk_set (blk_set (blk_set (blk_set (blk_set (blk_set (blk_far HZ2.out hne5 _) 0 _) 1 _) 2 _) 3 _) 4 _) 5 _)) Tryd.underlying35 rfl (by kernel_rfl))) rfl ?_
    all_goals refine ⟨⟨_, _, _, _, rfl, rfl, rfl, rfl, ?_⟩, ((((((((HBA.out.setCell hle _).setCell (Nat.le_refl _) _).setCell (Nat.le_refl _) _).setCell (Nat.le_refl _) _).setCell (Nat.le_refl _) _).setCell (Nat.le_refl _) _).setCell (Nat.le_refl _) _)).drew⟩
    all_goals exact own_base (own_drew (own_far (own_far (own_far (own_far (own_far (own_far (own_far HPO.out _ _ (by simp)) _ _ (by simp; omega)) _ _ (by simp; omega)) _ _ (by simp; omega)) _ _ (by simp; omega)) _ _ (by simp; omega)) _ _ (by simp; omega))) (by simp; omega)
set_option maxHeartbeats 4000000 in
set_option maxRecDepth 100000 in
theorem tag_if (s : Bs) (a b : Bs) (hw : wordsL s = [a, b]) (h1 : a ≠ [104, 116, 109, 108]) (h2 : a = [105, 102]) (w : World) (hT : Tabs w) (hl : s.length ≤ 1000000) :
    Calls Tryd.prog 29 #[.string (bs s)] w fun e w' => (∃ k pv nm ok, e = .returned (.tuple #[.agg (pcells k pv nm), .bool ok]) ∧ TagR w' w.heap.size k pv nm ok (tagL s)) ∧ Below w.heap.size w w' := by
  have hff := fun W : World => Tryd.strings_FieldsFunc_grows 47 #[] (by intro args w; exact enters_of Tryd.func47 (by kernel_rfl) rfl args w) sepN (bs s) W (by rw [bs_size]; omega) (fun W' x hx _ => sep_any x W' hx)
  have hlen : (Lib.goFieldsP sepN (bs s)).length = (wordsL s).length := by unfold wordsL; rw [List.length_map]
  simp only [words_cells, hlen, hw] at hff
  have HFF := Lib.hid (show ∀ W : World, Calls Tryd.prog 46 #[.string (bs s), .func (.func 47) #[] #[]] W fun e w' => ∃ A, e = .returned (.slice (some ⟨A, 0, none⟩) 2 2) ∧ W.heap.size ≤ A ∧ w'.ownsRow W.heap.size 9 1 (.slice (some ⟨A, 0, none⟩) 2 2) 2 (strs [a, b]) ∧ Below W.heap.size W w' from hff)
  clear hff hlen
  have q1 := eq_bs a [104, 116, 109, 108]
  rw [show (a == [104, 116, 109, 108]) = false from beq_eq_false_iff_ne.2 h1] at q1
  have q2 := eq_bs a [105, 102]
  rw [show (a == [105, 102]) = true from beq_iff_eq.2 h2] at q2
  have ht : tagL s = (pathL b).map fun l => ⟨4, 0, [], l, [], 0⟩ := by unfold tagL; rw [hw]; dsimp only; rw [if_neg h1, if_pos h2]
  have hal : b.length ≤ 1000000 := by have := words_le s b (by rw [hw]; simp); omega
  rw [ht]
  have hP := fun (W : World) (hb : Below w.heap.size w W) => path_any b W (hT.below hb) hal
  obtain ⟨PL, hPL⟩ : ∃ PL, PL = pathL b := ⟨_, rfl⟩
  simp only [← hPL] at hP ⊢
  clear hPL
  have HP := Lib.hid hP; clear hP
  clear ht hw hal h1 h2
  go_enter Tryd.func29, Tryd.ntmps29
  go_wp2_with (go_at_call 46; refine (HFF.out _).mono ?_; rintro e w1 ⟨A, rfl, hA, ho, hb1⟩; obtain ⟨hzb, hG⟩ := zero_block hb1; have hA2 := (ho.lt A rfl).2; have wc0 : w1.cell? ⟨A, 0, none⟩ = some (.string (bs a)) := ho.cellAt 0 (by decide); have wc1 : w1.cell? ⟨A, 1, none⟩ = some (.string (bs b)) := ho.cellAt 1 (by decide); have HB1 := Lib.hid hb1; have HO := Lib.hid ho; clear hb1 ho hA; have HZ := Lib.hid hzb; clear hzb)
  have hbw : Below w.heap.size w w1 := ((Below.refl _ w).alloc (Nat.le_refl _) _).trans (HB1.out.mono (by simp))
  refine (HP.out _ (hbw.alloc (Nat.le_of_lt hG) _)).mono ?_
  rintro e w2 ⟨v, rfl, hpv, hb2⟩
  have hg5 : Blk w2 w1.heap.size 35 [.int .i64 4, .int .i64 0, .string ⟨#[]⟩, .slice none 0 0, .string ⟨#[]⟩, .int .i64 0] := (hb2.block w1.heap.size (by simp)).trans (heap_alloc_new w1 _)
  have hz2 : Blk w2 w.heap.size 35 zero6 := (hb2.block w.heap.size (by simp; omega)).trans (blk_alloc HZ.out _)
  have hs2 : w1.heap.size < w2.heap.size := blk_lt hg5
  have hbA : Below w.heap.size w w2 := (hbw.alloc (Nat.le_of_lt hG) _).trans (hb2.mono (by simp; omega))
  have d0 := blk_cell hg5 0; have d1 := blk_cell hg5 1; have d2 := blk_cell hg5 2; have d3 := blk_cell hg5 3; have d4 := blk_cell hg5 4; have d5 := blk_cell hg5 5
  have e3 := blk_frozen hg5 3
  simp only [List.getElem?_cons_zero, List.getElem?_cons_succ] at d0 d1 d2 d3 d4 d5
  obtain ⟨G5, hG5⟩ : ∃ G5, G5 = w1.heap.size := ⟨_, rfl⟩
  obtain ⟨G2, hG2⟩ : ∃ G2, G2 = w.heap.size := ⟨_, rfl⟩
  have hgg : G2 < G5 := by omega
  have HZ2 := Lib.hid hz2; have HBA := Lib.hid hbA
  have hle : w.heap.size ≤ w1.heap.size := by omega
  have hne5 : w.heap.size ≠ w1.heap.size := by omega
  have hne6 : w1.heap.size ≠ w.heap.size := by omega
  obtain ⟨zc0, zc1, zc2, zc3, zc4, zc5, zf0, zf1, zf2, zf3, zf4, zf5⟩ := zero_facts HZ2.out
  have hrow := fun (W : World) (cs : Array Value) => setRow_far W w.heap.size cs ⟨w1.heap.size, 3, none⟩ hne5
  clear hz2 hb2 hbA wc0 wc1 hA2 hbw
  cases PL with
  | none =>
    obtain rfl : v = .slice none 0 0 := hpv
    go_wp2_with fail
    go_region
    all_goals go_wp2_with fail
    all_goals refine bodyPost_ret (v := .tuple #[.agg (pcells 4 (.slice none 0 0) []), .bool false]) (results_ct Tryd.results29 _ _ _ ⟨w.heap.size, 0, none⟩ _ rfl (run_loadVar_row _ w.heap.size 35 35 (pcells 4 (.slice none 0 0) []) (0, 0) _ (blk_drew (blk_set (blk_set (blk_set (blk_set (blk_set (blk_set (blk_far HZ2.out hne5 _) 0 _) 1 _) 2 _) 3 _) 4 _) 5 _)) Tryd.underlying35 rfl (by kernel_rfl))) rfl ?_
    all_goals exact ⟨⟨_, _, _, _, rfl, rfl, rfl⟩, ((((((((HBA.out.setCell hle _).setCell (Nat.le_refl _) _).setCell (Nat.le_refl _) _).setCell (Nat.le_refl _) _).setCell (Nat.le_refl _) _).setCell (Nat.le_refl _) _).setCell (Nat.le_refl _) _)).drew⟩
  | some L =>
    obtain ⟨⟨pb, rfl⟩, hown⟩ := hpv
    have HPO := Lib.hid hown
    clear hown
    go_wp2_with fail
    go_region
    all_goals go_wp2_with fail
    all_goals refine bodyPost_ret (v := .tuple #[.agg (pcells 4 (.slice (some ⟨pb, 0, none⟩) L.length L.length) []), .bool true]) (results_ct Tryd.results29 _ _ _ ⟨w.heap.size, 0, none⟩ _ rfl (run_loadVar_row _ w.heap.size 35 35 (pcells 4 (.slice (some ⟨pb, 0, none⟩) L.length L.length) []) (0, 0) _ (blk_drew (blk_set (blk_set (blk_set (blk_set (blk_set (blk_set (blk_far HZ2.out hne5 _) 0 _) 1 _) 2 _) 3 _) 4 _) 5 _)) Tryd.underlying35 rfl (by kernel_rfl))) rfl ?_
    all_goals refine ⟨⟨_, _, _, _, rfl, rfl, rfl, rfl, ?_⟩, ((((((((HBA.out.setCell hle _).setCell (Nat.le_refl _) _).setCell (Nat.le_refl _) _).setCell (Nat.le_refl _) _).setCell (Nat.le_refl _) _).setCell (Nat.le_refl _) _).setCell (Nat.le_refl _) _)).drew⟩
    all_goals exact own_base (own_drew (own_far (own_far (own_far (own_far (own_far (own_far (own_far HPO.out _ _ (by simp)) _ _ (by simp; omega)) _ _ (by simp; omega)) _ _ (by simp; omega)) _ _ (by simp; omega)) _ _ (by simp; omega)) _ _ (by simp; omega))) (by simp; omega)
set_option maxHeartbeats 4000000 in
set_option maxRecDepth 100000 in
theorem tag_two_no (s : Bs) (a b : Bs) (hw : wordsL s = [a, b]) (h1 : a ≠ [104, 116, 109, 108]) (h2 : a ≠ [105, 102]) (w : World) (hT : Tabs w) (hl : s.length ≤ 1000000) :
    Calls Tryd.prog 29 #[.string (bs s)] w fun e w' => (∃ k pv nm ok, e = .returned (.tuple #[.agg (pcells k pv nm), .bool ok]) ∧ TagR w' w.heap.size k pv nm ok (tagL s)) ∧ Below w.heap.size w w' := by
  have hff := fun W : World => Tryd.strings_FieldsFunc_grows 47 #[] (by intro args w; exact enters_of Tryd.func47 (by kernel_rfl) rfl args w) sepN (bs s) W (by rw [bs_size]; omega) (fun W' x hx _ => sep_any x W' hx)
  have hlen : (Lib.goFieldsP sepN (bs s)).length = (wordsL s).length := by unfold wordsL; rw [List.length_map]
  simp only [words_cells, hlen, hw] at hff
  have HFF := Lib.hid (show ∀ W : World, Calls Tryd.prog 46 #[.string (bs s), .func (.func 47) #[] #[]] W fun e w' => ∃ A, e = .returned (.slice (some ⟨A, 0, none⟩) 2 2) ∧ W.heap.size ≤ A ∧ w'.ownsRow W.heap.size 9 1 (.slice (some ⟨A, 0, none⟩) 2 2) 2 (strs [a, b]) ∧ Below W.heap.size W w' from hff)
  clear hff hlen
  have q1 := eq_bs a [104, 116, 109, 108]
  rw [show (a == [104, 116, 109, 108]) = false from beq_eq_false_iff_ne.2 h1] at q1
  have q2 := eq_bs a [105, 102]
  rw [show (a == [105, 102]) = false from beq_eq_false_iff_ne.2 h2] at q2
  have ht : tagL s = none := by unfold tagL; rw [hw]; dsimp only; rw [if_neg h1, if_neg h2]
  rw [ht]
  clear ht hw h1 h2
  go_enter Tryd.func29, Tryd.ntmps29
  go_wp2_with (first | (refine wpList_store_row rfl 35 (.tmp 2) (.tmp 9) rfl w.heap.size #[_, _, _, _, _, _] rfl rfl 35 _ (blk_alloc HZ.out _) (by kernel_rfl) rfl (by simp [Value.oneCell']) ?_) | (go_at_call 46; refine (HFF.out _).mono ?_; rintro e w1 ⟨A, rfl, hA, ho, hb1⟩; obtain ⟨hzb, hG⟩ := zero_block hb1; have hA2 := (ho.lt A rfl).2; have wc0 : w1.cell? ⟨A, 0, none⟩ = some (.string (bs a)) := ho.cellAt 0 (by decide); have wc1 : w1.cell? ⟨A, 1, none⟩ = some (.string (bs b)) := ho.cellAt 1 (by decide); have HB1 := Lib.hid hb1; have HO := Lib.hid ho; clear hb1 ho hA; have HZ := Lib.hid hzb; clear hzb))
  have hbw : Below w.heap.size w w1 := ((Below.refl _ w).alloc (Nat.le_refl _) _).trans (HB1.out.mono (by simp))
  refine bodyPost_ret (v := .tuple #[.agg (pcells 0 (.slice none 0 0) []), .bool false]) (results_ct Tryd.results29 _ _ _ ⟨w.heap.size, 0, none⟩ _ rfl (load_res _ w.heap.size _ rfl ⟨_, blk_alloc HZ.out _⟩)) rfl ?_
  exact ⟨⟨_, _, _, _, rfl, rfl, rfl⟩, below_setRow (hbw.alloc (Nat.le_of_lt hG) _) (Nat.le_refl _) _⟩
set_option maxHeartbeats 4000000 in
set_option maxRecDepth 100000 in
theorem tag_four_no1 (s : Bs) (a b c d : Bs) (hw : wordsL s = [a, b, c, d]) (h1 : a ≠ [102, 111, 114]) (w : World) (hT : Tabs w) (hl : s.length ≤ 1000000) :
    Calls Tryd.prog 29 #[.string (bs s)] w fun e w' => (∃ k pv nm ok, e = .returned (.tuple #[.agg (pcells k pv nm), .bool ok]) ∧ TagR w' w.heap.size k pv nm ok (tagL s)) ∧ Below w.heap.size w w' := by
  have hff := fun W : World => Tryd.strings_FieldsFunc_grows 47 #[] (by intro args w; exact enters_of Tryd.func47 (by kernel_rfl) rfl args w) sepN (bs s) W (by rw [bs_size]; omega) (fun W' x hx _ => sep_any x W' hx)
  have hlen : (Lib.goFieldsP sepN (bs s)).length = (wordsL s).length := by unfold wordsL; rw [List.length_map]
  simp only [words_cells, hlen, hw] at hff
  have HFF := Lib.hid (show ∀ W : World, Calls Tryd.prog 46 #[.string (bs s), .func (.func 47) #[] #[]] W fun e w' => ∃ A, e = .returned (.slice (some ⟨A, 0, none⟩) 4 4) ∧ W.heap.size ≤ A ∧ w'.ownsRow W.heap.size 9 1 (.slice (some ⟨A, 0, none⟩) 4 4) 4 (strs [a, b, c, d]) ∧ Below W.heap.size W w' from hff)
  clear hff hlen
  have q1 := eq_bs a [102, 111, 114]
  rw [show (a == [102, 111, 114]) = false from beq_eq_false_iff_ne.2 h1] at q1
  have ht : tagL s = none := by unfold tagL; rw [hw]; dsimp only; rw [if_neg (fun e => h1 e.1)]
  rw [ht]
  clear ht hw h1
  go_enter Tryd.func29, Tryd.ntmps29
  go_wp2_with (first | (refine wpList_store_row rfl 35 (.tmp 2) (.tmp 9) rfl w.heap.size #[_, _, _, _, _, _] rfl rfl 35 _ (blk_alloc HZ.out _) (by kernel_rfl) rfl (by simp [Value.oneCell']) ?_) | (go_at_call 46; refine (HFF.out _).mono ?_; rintro e w1 ⟨A, rfl, hA, ho, hb1⟩; obtain ⟨hzb, hG⟩ := zero_block hb1; have hA2 := (ho.lt A rfl).2; have wc0 : w1.cell? ⟨A, 0, none⟩ = some (.string (bs a)) := ho.cellAt 0 (by decide); have wc1 : w1.cell? ⟨A, 1, none⟩ = some (.string (bs b)) := ho.cellAt 1 (by decide); have wc2 : w1.cell? ⟨A, 2, none⟩ = some (.string (bs c)) := ho.cellAt 2 (by decide); have wc3 : w1.cell? ⟨A, 3, none⟩ = some (.string (bs d)) := ho.cellAt 3 (by decide); have HB1 := Lib.hid hb1; have HO := Lib.hid ho; clear hb1 ho hA; have HZ := Lib.hid hzb; clear hzb))
  have hbw : Below w.heap.size w w1 := ((Below.refl _ w).alloc (Nat.le_refl _) _).trans (HB1.out.mono (by simp))
  refine bodyPost_ret (v := .tuple #[.agg (pcells 0 (.slice none 0 0) []), .bool false]) (results_ct Tryd.results29 _ _ _ ⟨w.heap.size, 0, none⟩ _ rfl (load_res _ w.heap.size _ rfl ⟨_, blk_alloc HZ.out _⟩)) rfl ?_
  exact ⟨⟨_, _, _, _, rfl, rfl, rfl⟩, below_setRow (hbw.alloc (Nat.le_of_lt hG) _) (Nat.le_refl _) _⟩
set_option maxHeartbeats 4000000 in
set_option maxRecDepth 100000 in
theorem tag_four_no2 (s : Bs) (a b c d : Bs) (hw : wordsL s = [a, b, c, d]) (h1 : a = [102, 111, 114]) (h2 : c ≠ [105, 110]) (w : World) (hT : Tabs w) (hl : s.length ≤ 1000000) :
    Calls Tryd.prog 29 #[.string (bs s)] w fun e w' => (∃ k pv nm ok, e = .returned (.tuple #[.agg (pcells k pv nm), .bool ok]) ∧ TagR w' w.heap.size k pv nm ok (tagL s)) ∧ Below w.heap.size w w' := by
  have hff := fun W : World => Tryd.strings_FieldsFunc_grows 47 #[] (by intro args w; exact enters_of Tryd.func47 (by kernel_rfl) rfl args w) sepN (bs s) W (by rw [bs_size]; omega) (fun W' x hx _ => sep_any x W' hx)
  have hlen : (Lib.goFieldsP sepN (bs s)).length = (wordsL s).length := by unfold wordsL; rw [List.length_map]
  simp only [words_cells, hlen, hw] at hff
  have HFF := Lib.hid (show ∀ W : World, Calls Tryd.prog 46 #[.string (bs s), .func (.func 47) #[] #[]] W fun e w' => ∃ A, e = .returned (.slice (some ⟨A, 0, none⟩) 4 4) ∧ W.heap.size ≤ A ∧ w'.ownsRow W.heap.size 9 1 (.slice (some ⟨A, 0, none⟩) 4 4) 4 (strs [a, b, c, d]) ∧ Below W.heap.size W w' from hff)
  clear hff hlen
  have q1 := eq_bs a [102, 111, 114]
  rw [show (a == [102, 111, 114]) = true from beq_iff_eq.2 h1] at q1
  have q2 := eq_bs c [105, 110]
  rw [show (c == [105, 110]) = false from beq_eq_false_iff_ne.2 h2] at q2
  have ht : tagL s = none := by unfold tagL; rw [hw]; dsimp only; rw [if_neg (fun e => h2 e.2.1)]
  rw [ht]
  clear ht hw h1 h2
  go_enter Tryd.func29, Tryd.ntmps29
  go_wp2_with (first | (refine wpList_store_row rfl 35 (.tmp 2) (.tmp 9) rfl w.heap.size #[_, _, _, _, _, _] rfl rfl 35 _ (blk_alloc HZ.out _) (by kernel_rfl) rfl (by simp [Value.oneCell']) ?_) | (go_at_call 46; refine (HFF.out _).mono ?_; rintro e w1 ⟨A, rfl, hA, ho, hb1⟩; obtain ⟨hzb, hG⟩ := zero_block hb1; have hA2 := (ho.lt A rfl).2; have wc0 : w1.cell? ⟨A, 0, none⟩ = some (.string (bs a)) := ho.cellAt 0 (by decide); have wc1 : w1.cell? ⟨A, 1, none⟩ = some (.string (bs b)) := ho.cellAt 1 (by decide); have wc2 : w1.cell? ⟨A, 2, none⟩ = some (.string (bs c)) := ho.cellAt 2 (by decide); have wc3 : w1.cell? ⟨A, 3, none⟩ = some (.string (bs d)) := ho.cellAt 3 (by decide); have HB1 := Lib.hid hb1; have HO := Lib.hid ho; clear hb1 ho hA; have HZ := Lib.hid hzb; clear hzb))
  have hbw : Below w.heap.size w w1 := ((Below.refl _ w).alloc (Nat.le_refl _) _).trans (HB1.out.mono (by simp))
  refine bodyPost_ret (v := .tuple #[.agg (pcells 0 (.slice none 0 0) []), .bool false]) (results_ct Tryd.results29 _ _ _ ⟨w.heap.size, 0, none⟩ _ rfl (load_res _ w.heap.size _ rfl ⟨_, blk_alloc HZ.out _⟩)) rfl ?_
  exact ⟨⟨_, _, _, _, rfl, rfl, rfl⟩, below_setRow (hbw.alloc (Nat.le_of_lt hG) _) (Nat.le_refl _) _⟩
set_option maxHeartbeats 4000000 in
set_option maxRecDepth 100000 in
theorem tag_four_no3 (s : Bs) (a b c d : Bs) (hw : wordsL s = [a, b, c, d]) (h1 : a = [102, 111, 114]) (h2 : c = [105, 110]) (h3 : nameB b = false) (w : World) (hT : Tabs w) (hl : s.length ≤ 1000000) :
    Calls Tryd.prog 29 #[.string (bs s)] w fun e w' => (∃ k pv nm ok, e = .returned (.tuple #[.agg (pcells k pv nm), .bool ok]) ∧ TagR w' w.heap.size k pv nm ok (tagL s)) ∧ Below w.heap.size w w' := by
  have hff := fun W : World => Tryd.strings_FieldsFunc_grows 47 #[] (by intro args w; exact enters_of Tryd.func47 (by kernel_rfl) rfl args w) sepN (bs s) W (by rw [bs_size]; omega) (fun W' x hx _ => sep_any x W' hx)
  have hlen : (Lib.goFieldsP sepN (bs s)).length = (wordsL s).length := by unfold wordsL; rw [List.length_map]
  simp only [words_cells, hlen, hw] at hff
  have HFF := Lib.hid (show ∀ W : World, Calls Tryd.prog 46 #[.string (bs s), .func (.func 47) #[] #[]] W fun e w' => ∃ A, e = .returned (.slice (some ⟨A, 0, none⟩) 4 4) ∧ W.heap.size ≤ A ∧ w'.ownsRow W.heap.size 9 1 (.slice (some ⟨A, 0, none⟩) 4 4) 4 (strs [a, b, c, d]) ∧ Below W.heap.size W w' from hff)
  clear hff hlen
  have q1 := eq_bs a [102, 111, 114]
  rw [show (a == [102, 111, 114]) = true from beq_iff_eq.2 h1] at q1
  have q2 := eq_bs c [105, 110]
  rw [show (c == [105, 110]) = true from beq_iff_eq.2 h2] at q2
  have ht : tagL s = none := by unfold tagL; rw [hw]; dsimp only; rw [if_neg (fun e => by rw [h3] at e; exact absurd e.2.2 (by decide))]
  rw [ht]
  have hbl : b.length ≤ 1000000 := by have := words_le s b (by rw [hw]; simp); omega
  have HN := Lib.hid (fun (W : World) (hb : Below w.heap.size w W) => name_any b W (hT.below hb) hbl)
  simp only [h3] at HN
  clear ht hw h1 h2 h3 hbl
  go_enter Tryd.func29, Tryd.ntmps29
  go_wp2_with (first | (refine wpList_store_row rfl 35 (.tmp 2) (.tmp 9) rfl w.heap.size #[_, _, _, _, _, _] rfl rfl 35 _ HZ3.out (by kernel_rfl) rfl (by simp [Value.oneCell']) ?_) | (go_at_call 46; refine (HFF.out _).mono ?_; rintro e w1 ⟨A, rfl, hA, ho, hb1⟩; obtain ⟨hzb, hG⟩ := zero_block hb1; have hA2 := (ho.lt A rfl).2; have wc0 : w1.cell? ⟨A, 0, none⟩ = some (.string (bs a)) := ho.cellAt 0 (by decide); have wc1 : w1.cell? ⟨A, 1, none⟩ = some (.string (bs b)) := ho.cellAt 1 (by decide); have wc2 : w1.cell? ⟨A, 2, none⟩ = some (.string (bs c)) := ho.cellAt 2 (by decide); have wc3 : w1.cell? ⟨A, 3, none⟩ = some (.string (bs d)) := ho.cellAt 3 (by decide); have HB1 := Lib.hid hb1; have HO := Lib.hid ho; clear hb1 ho hA; have HZ := Lib.hid hzb; clear hzb) | (go_at_call 48; refine (HN.out _ ((((Below.refl _ w).alloc (Nat.le_refl _) _).trans (HB1.out.mono (by simp))).alloc (Nat.le_of_lt hG) _)).mono ?_; rintro e w3 ⟨rfl, hb3⟩; have HZ3 := Lib.hid (show Blk w3 w.heap.size 35 zero6 from (hb3.block w.heap.size (by simp; omega)).trans (blk_alloc HZ.out _)); have HG3 := Lib.hid (show Blk w3 w1.heap.size 35 zero6 from (hb3.block w1.heap.size (by simp)).trans (heap_alloc_new w1 _)); obtain ⟨d0, d1, d2, d3, d4, d5, e0, e1, e2, e3, e4, e5⟩ := zero_facts HG3.out; have wx1 : w3.cell? ⟨A, 1, none⟩ = some (.string (bs b)) := (hb3.cell (p := ⟨A, 1, none⟩) (by simp; omega)).trans ((World.cell?_alloc_lt w1 _ ⟨A, 1, none⟩ hA2).trans wc1); have wx3 : w3.cell? ⟨A, 3, none⟩ = some (.string (bs d)) := (hb3.cell (p := ⟨A, 3, none⟩) (by simp; omega)).trans ((World.cell?_alloc_lt w1 _ ⟨A, 3, none⟩ hA2).trans wc3); have hs3 : w1.heap.size < w3.heap.size := blk_lt HG3.out; have HB3 := Lib.hid hb3; clear hb3))
  have hbw : Below w.heap.size w w3 := ((((Below.refl _ w).alloc (Nat.le_refl _) _).trans (HB1.out.mono (by simp))).alloc (Nat.le_of_lt hG) _).trans (HB3.out.mono (by simp; omega))
  refine bodyPost_ret (v := .tuple #[.agg (pcells 0 (.slice none 0 0) []), .bool false]) (results_ct Tryd.results29 _ _ _ ⟨w.heap.size, 0, none⟩ _ rfl (load_res _ w.heap.size _ rfl ⟨_, HZ3.out⟩)) rfl ?_
  exact ⟨⟨_, _, _, _, rfl, rfl, rfl⟩, below_setRow hbw (Nat.le_refl _) _⟩
set_option maxHeartbeats 4000000 in
set_option maxRecDepth 100000 in
theorem tag_for (s : Bs) (a b c d : Bs) (hw : wordsL s = [a, b, c, d]) (h1 : a = [102, 111, 114]) (h2 : c = [105, 110]) (h3 : nameB b = true) (w : World) (hT : Tabs w) (hl : s.length ≤ 1000000) :
    Calls Tryd.prog 29 #[.string (bs s)] w fun e w' => (∃ k pv nm ok, e = .returned (.tuple #[.agg (pcells k pv nm), .bool ok]) ∧ TagR w' w.heap.size k pv nm ok (tagL s)) ∧ Below w.heap.size w w' := by
  have hff := fun W : World => Tryd.strings_FieldsFunc_grows 47 #[] (by intro args w; exact enters_of Tryd.func47 (by kernel_rfl) rfl args w) sepN (bs s) W (by rw [bs_size]; omega) (fun W' x hx _ => sep_any x W' hx)
  have hlen : (Lib.goFieldsP sepN (bs s)).length = (wordsL s).length := by unfold wordsL; rw [List.length_map]
  simp only [words_cells, hlen, hw] at hff
  have HFF := Lib.hid (show ∀ W : World, Calls Tryd.prog 46 #[.string (bs s), .func (.func 47) #[] #[]] W fun e w' => ∃ A, e = .returned (.slice (some ⟨A, 0, none⟩) 4 4) ∧ W.heap.size ≤ A ∧ w'.ownsRow W.heap.size 9 1 (.slice (some ⟨A, 0, none⟩) 4 4) 4 (strs [a, b, c, d]) ∧ Below W.heap.size W w' from hff)
  clear hff hlen
  have q1 := eq_bs a [102, 111, 114]
  rw [show (a == [102, 111, 114]) = true from beq_iff_eq.2 h1] at q1
  have q2 := eq_bs c [105, 110]
  rw [show (c == [105, 110]) = true from beq_iff_eq.2 h2] at q2
  have ht : tagL s = (pathL d).map fun l => ⟨3, 0, [], l, b, 0⟩ := by unfold tagL; rw [hw]; dsimp only; rw [if_pos ⟨h1, h2, h3⟩]
  have hal : d.length ≤ 1000000 := by have := words_le s d (by rw [hw]; simp); omega
  rw [ht]
  have hP := fun (W : World) (hb : Below w.heap.size w W) => path_any d W (hT.below hb) hal
  obtain ⟨PL, hPL⟩ : ∃ PL, PL = pathL d := ⟨_, rfl⟩
  simp only [← hPL] at hP ⊢
  clear hPL
  have HP := Lib.hid hP; clear hP
  have hbl : b.length ≤ 1000000 := by have := words_le s b (by rw [hw]; simp); omega
  have HN := Lib.hid (fun (W : World) (hb : Below w.heap.size w W) => name_any b W (hT.below hb) hbl)
  simp only [h3] at HN
  clear ht hw h1 h2 h3 hbl hal
  go_enter Tryd.func29, Tryd.ntmps29
  go_wp2_with (first | (go_at_call 46; refine (HFF.out _).mono ?_; rintro e w1 ⟨A, rfl, hA, ho, hb1⟩; obtain ⟨hzb, hG⟩ := zero_block hb1; have hA2 := (ho.lt A rfl).2; have wc0 : w1.cell? ⟨A, 0, none⟩ = some (.string (bs a)) := ho.cellAt 0 (by decide); have wc1 : w1.cell? ⟨A, 1, none⟩ = some (.string (bs b)) := ho.cellAt 1 (by decide); have wc2 : w1.cell? ⟨A, 2, none⟩ = some (.string (bs c)) := ho.cellAt 2 (by decide); have wc3 : w1.cell? ⟨A, 3, none⟩ = some (.string (bs d)) := ho.cellAt 3 (by decide); have HB1 := Lib.hid hb1; have HO := Lib.hid ho; clear hb1 ho hA; have HZ := Lib.hid hzb; clear hzb) | (go_at_call 48; refine (HN.out _ ((((Below.refl _ w).alloc (Nat.le_refl _) _).trans (HB1.out.mono (by simp))).alloc (Nat.le_of_lt hG) _)).mono ?_; rintro e w3 ⟨rfl, hb3⟩; have HZ3 := Lib.hid (show Blk w3 w.heap.size 35 zero6 from (hb3.block w.heap.size (by simp; omega)).trans (blk_alloc HZ.out _)); have HG3 := Lib.hid (show Blk w3 w1.heap.size 35 zero6 from (hb3.block w1.heap.size (by simp)).trans (heap_alloc_new w1 _)); obtain ⟨d0, d1, d2, d3, d4, d5, e0, e1, e2, e3, e4, e5⟩ := zero_facts HG3.out; have wx1 : w3.cell? ⟨A, 1, none⟩ = some (.string (bs b)) := (hb3.cell (p := ⟨A, 1, none⟩) (by simp; omega)).trans ((World.cell?_alloc_lt w1 _ ⟨A, 1, none⟩ hA2).trans wc1); have wx3 : w3.cell? ⟨A, 3, none⟩ = some (.string (bs d)) := (hb3.cell (p := ⟨A, 3, none⟩) (by simp; omega)).trans ((World.cell?_alloc_lt w1 _ ⟨A, 3, none⟩ hA2).trans wc3); have hs3 : w1.heap.size < w3.heap.size := blk_lt HG3.out; have HB3 := Lib.hid hb3; clear hb3))
  have hbw3 : Below w.heap.size w w3 := ((((Below.refl _ w).alloc (Nat.le_refl _) _).trans (HB1.out.mono (by simp))).alloc (Nat.le_of_lt hG) _).trans (HB3.out.mono (by simp; omega))
  have hle : w.heap.size ≤ w1.heap.size := by omega
  have hne5 : w.heap.size ≠ w1.heap.size := by omega
  have hne6 : w1.heap.size ≠ w.heap.size := by omega
  go_region
  obtain ⟨W4, hW4⟩ : ∃ W4, W4 = ((w3.setCell ⟨w1.heap.size, 0, none⟩ (.int .i64 3)).setCell ⟨w1.heap.size, 4, none⟩ (.string (bs b))).drew := ⟨_, rfl⟩
  have hg4 : Blk W4 w1.heap.size 35 [.int .i64 3, .int .i64 0, .string ⟨#[]⟩, .slice none 0 0, .string (bs b), .int .i64 0] := by rw [hW4]; exact blk_drew (blk_set (blk_set HG3.out 0 _) 4 _)
  have hz4 : Blk W4 w.heap.size 35 zero6 := by rw [hW4]; exact blk_drew (blk_far (blk_far HZ3.out hne5 _) hne5 _)
  have hb4 : Below w.heap.size w W4 := by rw [hW4]; exact ((hbw3.setCell hle _).setCell hle _).drew
  have wy3 : W4.cell? ⟨A, 3, none⟩ = some (.string (bs d)) := by
    rw [hW4]
    exact (setCell_away (setCell_away wx3 (p := ⟨w1.heap.size, 0, none⟩) (by show w1.heap.size ≠ A; omega)) (p := ⟨w1.heap.size, 4, none⟩) (by show w1.heap.size ≠ A; omega))
  rw [← hW4]
  have hs4 : w1.heap.size < W4.heap.size := blk_lt hg4
  clear hW4 wx1 wx3 d0 d1 d2 d3 d4 d5 e0 e1 e2 e3 e4 e5 wc0 wc1 wc2 wc3 hbw3
  go_wp2_with fail
  refine (HP.out _ hb4).mono ?_
  rintro e w2 ⟨v, rfl, hpv, hb2⟩
  have hg5 : Blk w2 w1.heap.size 35 [.int .i64 3, .int .i64 0, .string ⟨#[]⟩, .slice none 0 0, .string (bs b), .int .i64 0] := (hb2.block w1.heap.size hs4).trans hg4
  have hz2 : Blk w2 w.heap.size 35 zero6 := (hb2.block w.heap.size (by omega)).trans hz4
  have hs2 : w1.heap.size < w2.heap.size := blk_lt hg5
  have hbA : Below w.heap.size w w2 := hb4.trans (hb2.mono (by omega))
  have d0 := blk_cell hg5 0; have d1 := blk_cell hg5 1; have d2 := blk_cell hg5 2; have d3 := blk_cell hg5 3; have d4 := blk_cell hg5 4; have d5 := blk_cell hg5 5
  have e3 := blk_frozen hg5 3
  simp only [List.getElem?_cons_zero, List.getElem?_cons_succ] at d0 d1 d2 d3 d4 d5
  have HZ2 := Lib.hid hz2; have HBA := Lib.hid hbA
  obtain ⟨zc0, zc1, zc2, zc3, zc4, zc5, zf0, zf1, zf2, zf3, zf4, zf5⟩ := zero_facts HZ2.out
  have hrow := fun (W : World) (cs : Array Value) => setRow_far W w.heap.size cs ⟨w1.heap.size, 3, none⟩ hne5
  clear hz2 hb2 hbA hg5 hg4 hz4 hb4 wy3
  cases PL with
  | none =>
    obtain rfl : v = .slice none 0 0 := hpv
    go_wp2_with fail
    go_region
    all_goals go_wp2_with fail
    all_goals refine bodyPost_ret (v := .tuple #[.agg (pcells 3 (.slice none 0 0) b), .bool false]) (results_ct Tryd.results29 _ _ _ ⟨w.heap.size, 0, none⟩ _ rfl (run_loadVar_row _ w.heap.size 35 35 (pcells 3 (.slice none 0 0) b) (0, 0) _ (blk_drew (blk_set (blk_set (blk_set (blk_set (blk_set (blk_set (blk_far HZ2.out hne5 _) 0 _) 1 _) 2 _) 3 _) 4 _) 5 _)) Tryd.underlying35 rfl (by kernel_rfl))) rfl ?_
    all_goals exact ⟨⟨_, _, _, _, rfl, rfl, rfl⟩, ((((((((HBA.out.setCell hle _).setCell (Nat.le_refl _) _).setCell (Nat.le_refl _) _).setCell (Nat.le_refl _) _).setCell (Nat.le_refl _) _).setCell (Nat.le_refl _) _).setCell (Nat.le_refl _) _)).drew⟩
  | some L =>
    obtain ⟨⟨pb, rfl⟩, hown⟩ := hpv
    have HPO := Lib.hid hown
    clear hown
    go_wp2_with fail
    go_region
    all_goals go_wp2_with fail
    all_goals refine bodyPost_ret (v := .tuple #[.agg (pcells 3 (.slice (some ⟨pb, 0, none⟩) L.length L.length) b), .bool true]) (results_ct Tryd.results29 _ _ _ ⟨w.heap.size, 0, none⟩ _ rfl (run_loadVar_row _ w.heap.size 35 35 (pcells 3 (.slice (some ⟨pb, 0, none⟩) L.length L.length) b) (0, 0) _ (blk_drew (blk_set (blk_set (blk_set (blk_set (blk_set (blk_set (blk_far HZ2.out hne5 _) 0 _) 1 _) 2 _) 3 _) 4 _) 5 _)) Tryd.underlying35 rfl (by kernel_rfl))) rfl ?_
    all_goals refine ⟨⟨_, _, _, _, rfl, rfl, rfl, rfl, ?_⟩, ((((((((HBA.out.setCell hle _).setCell (Nat.le_refl _) _).setCell (Nat.le_refl _) _).setCell (Nat.le_refl _) _).setCell (Nat.le_refl _) _).setCell (Nat.le_refl _) _).setCell (Nat.le_refl _) _)).drew⟩
    all_goals exact own_base (own_drew (own_far (own_far (own_far (own_far (own_far (own_far (own_far HPO.out _ _ hs4) _ _ (by show w.heap.size < _; omega)) _ _ (by show w.heap.size < _; omega)) _ _ (by show w.heap.size < _; omega)) _ _ (by show w.heap.size < _; omega)) _ _ (by show w.heap.size < _; omega)) _ _ (by show w.heap.size < _; omega))) (by omega)
/-- lex.tag, whole. -/
theorem tag_piece (s : Bs) (w : World) (hT : Tabs w) (hl : s.length ≤ 1000000) :
    Calls Tryd.prog 29 #[.string (bs s)] w fun e w' => (∃ k pv nm ok, e = .returned (.tuple #[.agg (pcells k pv nm), .bool ok]) ∧ TagR w' w.heap.size k pv nm ok (tagL s)) ∧ Below w.heap.size w w' := by
  have hno : ∀ (hn : (wordsL s).length ≠ 1 ∧ (wordsL s).length ≠ 2 ∧ (wordsL s).length ≠ 4), tagL s = none → Calls Tryd.prog 29 #[.string (bs s)] w fun e w' => (∃ k pv nm ok, e = .returned (.tuple #[.agg (pcells k pv nm), .bool ok]) ∧ TagR w' w.heap.size k pv nm ok (tagL s)) ∧ Below w.heap.size w w' := by
    intro hn ht
    refine (tag_none s w hl hn).mono ?_
    rintro e w' ⟨⟨k, pv, nm, ok, h1, h2⟩, hb⟩
    rw [ht]
    exact ⟨⟨k, pv, nm, ok, h1, h2⟩, hb⟩
  match hw : wordsL s with
  | [] => exact hno (by rw [hw]; decide) (by unfold tagL; rw [hw])
  | [a] =>
    by_cases h1 : a = [101, 108, 115, 101]
    · subst h1; exact tag_else s hw w hT hl
    · by_cases h2 : a = [101, 110, 100]
      · subst h2; exact tag_end s hw w hT hl
      · exact tag_insert s a hw h1 h2 w hT hl
  | [a, b] =>
    by_cases h1 : a = [104, 116, 109, 108]
    · exact tag_html s a b hw h1 w hT hl
    · by_cases h2 : a = [105, 102]
      · exact tag_if s a b hw h1 h2 w hT hl
      · exact tag_two_no s a b hw h1 h2 w hT hl
  | [a, b, c] => exact hno (by rw [hw]; exact ⟨by simp, by simp, by simp⟩) (by unfold tagL; rw [hw])
  | [a, b, c, d] =>
    by_cases h1 : a = [102, 111, 114]
    · by_cases h2 : c = [105, 110]
      · cases h3 : nameB b with
        | true => exact tag_for s a b c d hw h1 h2 h3 w hT hl
        | false => exact tag_four_no3 s a b c d hw h1 h2 h3 w hT hl
      · exact tag_four_no2 s a b c d hw h1 h2 w hT hl
    · exact tag_four_no1 s a b c d hw h1 w hT hl
  | a :: b :: c :: d :: e :: r => exact hno (by rw [hw]; simp only [List.length_cons]; omega) (by unfold tagL; rw [hw])

end Go.Proofs.YthilkpjdfjjikaaDoor
