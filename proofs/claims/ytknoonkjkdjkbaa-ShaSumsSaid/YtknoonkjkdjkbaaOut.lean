/-
  Small laws for Sum: rows loaded and stored in a round, the bytes that come out.
-/
import Derived.Test.YtknoonkjkdjkbaaChk
import Derived.Test.YtknoonkjkdjkbaaCat
import Derived.Test.YtknoonkjkdjkbaaBeg
namespace Go.Proofs.Ytknoonkjkdjkbaa
open Go.RowKit Go.Shelf

attribute [local go_sem] Oper.semAt_some

theorem b8s_snoc1 (L : List UInt8) (x : UInt8) (q : Int) (h : q = (x.toNat : Nat)) : b8s L ++ #[Value.int IntKind.u8 q].toList = b8s (L ++ [x]) := by
  subst h; rw [b8s_append]; rfl
theorem pad_snoc1 (L : List UInt8) (z : Nat) : b8s (L ++ List.replicate z 0) ++ #[Value.int IntKind.u8 0].toList = b8s (L ++ List.replicate (z + 1) 0) := by
  rw [b8s_snoc1 _ 0 0 rfl, List.replicate_succ', List.append_assoc]
theorem calls_at {P : Program} {f : FuncId} {args : Array Value} {w0 w1 : World} {R : Ending → World → Prop} (h : w0 = w1) (hc : Calls P f args w1 R) : Calls P f args w0 R := h ▸ hc
theorem partsAt_keep {w w' : World} {B : Nat} {A : Option Addr} {ps : List Part} (h : partsAt w B A ps) (hb : Below B w w') : partsAt w' B A ps :=
  ⟨h.1.keep hb, fun p hp => ⟨(h.2 p hp).1.keep hb, (h.2 p hp).2⟩⟩

theorem wpList_alloc46 {ops : Array Oper} {rest : List Oper} {o : Oper} {a : Act} {w : World} {Q : Exit → Act → World → Prop} (hg : o.guard = none) (ho : o.op = .alloc 46) (d : Option Tmp) (hd : o.dst = d) (N : Nat) (hN : w.heap.size = N)
    (h : wpList Try.prog ops Q rest (a.put d (.pointer (some ⟨N, 0, none⟩))) (w.alloc (.cells z64 46))) : wpList Try.prog ops Q (o :: rest) a w := by
  subst hN
  refine Go.Great.wpList_allocTo hg d hd (.pointer (some ⟨w.heap.size, 0, none⟩)) (.cells z64 46) ?_ h
  obtain ⟨dst, op, ty, pos, af, gd⟩ := o
  dsimp only at ho hd; subst ho hd
  kernel_rfl
theorem wpListIn_load_row {F : Fence} {n : Nat} {P : Program} {ops : Array Oper} {rest : List Oper} {o : Oper} {a : Act} {w : World} {Q : Exit → Act → World → Prop} (hgd : o.guard = none) (ty : TypeId) (x : Operand) (ho : o.op = .load ty x)
    (g : Nat) (hx : a.eval x = .pointer (some ⟨g, 0, none⟩)) (t : TypeId) (cs : Array Value) (fr : Nat × Nat) (d : TypeDesc) (hg : w.heap[g]? = some (.cells cs t fr))
    (hu : P.underlying ty = some d) (hd : (match d with | .struct _ | .array _ _ => true | _ => false) = true) (hi : (P.info? ty).map (·.size) = some cs.size)
    (h : wpListIn F n P ops Q rest (a.put o.dst (.agg cs)) w) : wpListIn F n P ops Q (o :: rest) a w := by
  refine wpListIn_plain hgd fun K hK' => ?_
  unfold Oper.wpIn
  refine ⟨?_, ?_⟩
  · simp [Oper.about, ho]
  · rw [Oper.semAt_plain F _ _ (by rw [ho]; intro c hc'; cases hc')]
    simp only [execOp, ho, hx, Instr.loadAt, Instr.sureAddr, Sem.run_bind, Sem.run_pure, Result.andThen_ok, run_loadVar_row w g t ty cs fr d hg hu hd hi]
    exact hK' _ _ h
theorem wpListIn_store_row {F : Fence} {n : Nat} {P : Program} {ops : Array Oper} {rest : List Oper} {o : Oper} {a : Act} {w : World} {Q : Exit → Act → World → Prop} (hgd : o.guard = none) (ty : TypeId) (x y : Operand) (ho : o.op = .store ty x y)
    (g : Nat) (cells : Array Value) (hx : a.eval x = .pointer (some ⟨g, 0, none⟩)) (hy : a.eval y = .agg cells)
    (t : TypeId) (old : Array Value) (hg : w.heap[g]? = some (.cells old t (0, 0))) (hi : (P.info? ty).map (·.size) = some cells.size)
    (hold : old.size = cells.size) (h1 : cells.all (·.oneCell') = true)
    (h : wpListIn F n P ops Q rest (a.put o.dst undef) (w.setRow g cells)) : wpListIn F n P ops Q (o :: rest) a w := by
  refine wpListIn_plain hgd fun K hK' => ?_
  unfold Oper.wpIn
  refine ⟨?_, ?_⟩
  · simp [Oper.about, ho]
  · rw [Oper.semAt_plain F _ _ (by rw [ho]; intro c hc'; cases hc')]
    simp only [execOp, ho, hx, hy, Instr.storeAt, Instr.sureAddr, Sem.run_bind, Sem.run_pure, Result.andThen_ok, run_storeVar_row w g t ty old cells hg hi hold h1]
    exact hK' _ _ h
/-- The hash that the chunks at these places leave. -/
def foldH (P : List UInt8) {m : Nat} (xs : List (Ix m)) : S8 := xs.foldl (fun h x => h.add (S8.rounds kTab (sched (P.drop (64 * x.1)) 64) h 64)) hTab
theorem foldH_snoc (P : List UInt8) {m : Nat} (xs : List (Ix m)) (x : Ix m) : foldH P (xs ++ [x]) = (foldH P xs).add (S8.rounds kTab (sched (P.drop (64 * x.1)) 64) (foldH P xs) 64) := by
  simp [foldH, List.foldl_append]
theorem foldH_upto (P : List UInt8) (m : Nat) : ∀ k (hk : k ≤ m), foldH P (upto m k hk) = hashTo P k
  | 0, h => rfl
  | k + 1, h => by rw [upto_succ m k h, foldH_snoc, foldH_upto P m k (by omega)]; rfl
theorem b8s_getD (L : List UInt8) (i : Nat) (h : i < L.length) : (b8s L)[i]? = some (.int .u8 (bv8 (L.getD i 0))) := by
  simp [b8s, h, bv8]
theorem run_index44 (w : World) (cs : Array Value) (j : Nat) (v : Value) (hj : j < 8) (hv : cs[j]? = some v) : (Instr.index 44 (.agg cs) (.int .i64 j)).run Try.prog w = .ok v w := by
  have h0 : (0 : Int) ≤ (j : Int) ∧ (j : Int) < 8 := by omega
  simp [Instr.index, run_underlying Try.underlying44, asIntOf, part, h0, go_sem, hv]
  intro; omega
theorem wpList_index44 {ops : Array Oper} {rest : List Oper} {o : Oper} {a : Act} {w : World} {Q : Exit → Act → World → Prop} (hgd : o.guard = none) (x y : Operand) (ho : o.op = .index 44 x y)
    (cs : Array Value) (j : Nat) (v : Value) (hx : a.eval x = .agg cs) (hy : a.eval y = .int .i64 j) (hj : j < 8) (hv : cs[j]? = some v)
    (h : wpList Try.prog ops Q rest (a.put o.dst v) w) : wpList Try.prog ops Q (o :: rest) a w := by
  refine wpList_plain hgd fun K hK => ?_
  unfold Oper.wp execOp
  simp only [ho, hx, hy, Sem.run_bind, run_index44 w cs j v hj hv, Result.andThen_ok]
  exact hK _ _ h
theorem blk_kept {B : Nat} {W W' : World} {g : Nat} {t : TypeId} {cs : List Value} {row : Option Nat} (h : Blk W g t cs) (hg : W.grownBy W' row) (hr : ∀ r, row = some r → B ≤ r) (hB : g < B) : Blk W' g t cs :=
  (hg.block g (blk_lt h) (fun e => by have := hr g e.symm; omega)).trans h
theorem wb_out (x : BitVec 32) : wordBytes x = [UInt8.ofNat (x.toNat / 16777216), UInt8.ofNat (x.toNat / 65536), UInt8.ofNat (x.toNat / 256), UInt8.ofNat x.toNat] := rfl
theorem own_max {w : World} {base size n cap : Nat} {e : TypeId} {A : Option Addr} {xs : List Value} (h : w.ownsRow base e size (.slice A n cap) n xs) : cap ≤ maxLen := by
  rcases h.2 with ⟨hn, _⟩ | ⟨g', cap', cur, hv, _, hh, _, hm, hs, ht⟩
  · injection hn with h1 h2 h3; subst h3; exact Nat.zero_le _
  · injection hv with h1 h2 h3; subst h3; exact hm
theorem wp_world {P : Program} {c : Code} {Q : Exit → Act → World → Prop} {a : Act} {w0 w1 : World} (h : w0 = w1) (hc : c.wp P Q a w1) : c.wp P Q a w0 := h ▸ hc
theorem row46 (w : World) (c z h : Array Value) : (((w.alloc (.cells c 44)).alloc (.cells z 46)).setRow w.heap.size h).heap[w.heap.size + 1]? = some (.cells z 46 (0, 0)) := by
  rw [setRow_other _ _ _ _ (by omega)]
  have := blk_new (w.alloc (.cells c 44)) 46 z
  rw [Blk, World.size_alloc] at this
  exact this
theorem rows_laid (w : World) (c z h k : Array Value) :
    Blk ((((w.alloc (.cells c 44)).alloc (.cells z 46)).setRow w.heap.size h).setRow (w.heap.size + 1) k) w.heap.size 44 h.toList ∧
    Blk ((((w.alloc (.cells c 44)).alloc (.cells z 46)).setRow w.heap.size h).setRow (w.heap.size + 1) k) (w.heap.size + 1) 46 k.toList ∧
    Below w.heap.size w ((((w.alloc (.cells c 44)).alloc (.cells z 46)).setRow w.heap.size h).setRow (w.heap.size + 1) k) ∧
    ((((w.alloc (.cells c 44)).alloc (.cells z 46)).setRow w.heap.size h).setRow (w.heap.size + 1) k).heap.size = w.heap.size + 2 := by
  refine ⟨?_, ?_, ?_, ?_⟩
  · rw [Blk, setRow_other _ _ _ _ (by omega)]
    exact setRow_heap _ _ _ _ 44 (0, 0) (blk_alloc (blk_new w 44 c) _)
  · exact setRow_heap _ _ _ _ 46 (0, 0) (row46 w c z h)
  · exact below_setRow (below_setRow (((Below.refl _ w).alloc (Nat.le_refl _) _).alloc (by simp) _) (by omega) _) (by omega) _
  · simp
theorem kRow_one : (w32s kTab).toArray.all (·.oneCell') = true := by
  simp [w32s, Value.oneCell']

theorem b8s_all (R : List UInt8) : (b8s R).toArray.all (·.oneCell') = true := by simp [b8s, Value.oneCell']
theorem bytesOf_length : ∀ l : List (BitVec 32), (bytesOf l).length = 4 * l.length
  | [] => rfl
  | x :: l => by
    have : bytesOf (x :: l) = wordBytes x ++ bytesOf l := rfl
    rw [this, List.length_append, bytesOf_length l, List.length_cons]; simp [wordBytes]; omega
/-- The bytes that lie there when k words are written. -/
def outW (S : S8) (k : Nat) : List UInt8 := bytesOf (S.list.take k) ++ List.replicate (32 - 4 * k) 0
theorem outW_zero (S : S8) : outW S 0 = List.replicate 32 0 := rfl
theorem outW_last (S : S8) : outW S 8 = bytesOf S.list := by simp [outW, S8.list]
theorem outW_length (S : S8) (k : Nat) (hk : k ≤ 8) : (outW S k).length = 32 := by
  simp [outW, bytesOf_length, S8.list]; omega
theorem outW_form (S : S8) (k : Nat) (hk : k < 8) : outW S k = bytesOf (S.list.take k) ++ (0 :: 0 :: 0 :: 0 :: List.replicate (32 - 4 * (k + 1)) 0) := by
  rw [outW, show 32 - 4 * k = (32 - 4 * (k + 1)) + 4 by omega]; simp [List.replicate_succ]
theorem outW_at (S : S8) (k r : Nat) (hk : k < 8) (hr : r < 4) : (b8s (outW S k))[4 * k + r]? = some (.int .u8 0) := by
  rw [outW_form S k hk]
  have hl : (bytesOf (S.list.take k)).length = 4 * k := by rw [bytesOf_length]; simp [S8.list]; omega
  simp only [b8s, List.map_append]
  rw [List.getElem?_append_right (by simp [hl]), List.length_map, hl, Nat.add_sub_cancel_left]
  rcases r with _ | _ | _ | _ | r <;> first | rfl | omega
theorem set4 (L T : List Value) (a b c d a' b' c' d' : Value) (m : Nat) (h : L.length = m) :
    ((((L ++ (a :: b :: c :: d :: T)).set m a').set (m + 1) b').set (m + 2) c').set (m + 3) d' = L ++ (a' :: b' :: c' :: d' :: T) := by
  subst h
  simp
theorem take_snoc8 (S : S8) : ∀ k, k < 8 → S.list.take (k + 1) = S.list.take k ++ [S.list.getD k 0]
  | 0, _ | 1, _ | 2, _ | 3, _ | 4, _ | 5, _ | 6, _ | 7, _ => rfl
  | k + 8, h => by omega
theorem byte_wv (x : BitVec 32) (q : Nat) : Value.int .u8 (wv x / (q : Int) % 256) = .int .u8 ((UInt8.ofNat (x.toNat / q)).toNat : Nat) := by
  congr 1
theorem outW_set (S : S8) (k : Nat) (hk : k < 8) (x : BitVec 32) (hx : x = S.list.getD k 0) :
    ((((b8s (outW S k)).set (4 * k) (.int .u8 (wv x / 16777216 % 256))).set (4 * k + 1) (.int .u8 (wv x / 65536 % 256))).set (4 * k + 2) (.int .u8 (wv x / 256 % 256))).set (4 * k + 3) (.int .u8 (wv x % 256)) = b8s (outW S (k + 1)) := by
  have hl : (b8s (bytesOf (S.list.take k))).length = 4 * k := by simp [b8s, bytesOf_length, S8.list]; omega
  have e1 : b8s (outW S k) = b8s (bytesOf (S.list.take k)) ++ (.int .u8 0 :: .int .u8 0 :: .int .u8 0 :: .int .u8 0 :: b8s (List.replicate (32 - 4 * (k + 1)) 0)) := by
    rw [outW_form S k hk]; simp [b8s]
  rw [e1, set4 _ _ _ _ _ _ _ _ _ _ _ hl]
  rw [outW, take_snoc8 S k hk, ← hx]
  have e2 : bytesOf (S.list.take k ++ [x]) = bytesOf (S.list.take k) ++ wordBytes x := by simp [bytesOf]
  rw [e2]
  have a : Value.int .u8 (wv x / 16777216 % 256) = .int .u8 ((UInt8.ofNat (x.toNat / 16777216)).toNat : Nat) := byte_wv x 16777216
  have b : Value.int .u8 (wv x / 65536 % 256) = .int .u8 ((UInt8.ofNat (x.toNat / 65536)).toNat : Nat) := byte_wv x 65536
  have c : Value.int .u8 (wv x / 256 % 256) = .int .u8 ((UInt8.ofNat (x.toNat / 256)).toNat : Nat) := byte_wv x 256
  have d : Value.int .u8 (wv x % 256) = .int .u8 ((UInt8.ofNat x.toNat).toNat : Nat) := by have := byte_wv x 1; simpa using this
  rw [a, b, c, d]
  simp [b8s, wordBytes]
end Go.Proofs.Ytknoonkjkdjkbaa
