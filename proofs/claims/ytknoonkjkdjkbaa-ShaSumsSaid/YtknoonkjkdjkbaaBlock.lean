/-
  The rounds over one block of 64 bytes.
-/
import Derived.Test.YtknoonkjkdjkbaaBase
namespace Go.Proofs.Ytknoonkjkdjkbaa
open Go.RowKit
def w32s (l : List (BitVec 32)) : List Value := l.map fun x => Value.int .u32 (wv x)
theorem blk4 (w : World) (c0 c1 c2 c3 : Array Value) (t0 t1 t2 t3 : TypeId) :
    Blk ((((w.alloc (.cells c0 t0)).alloc (.cells c1 t1)).alloc (.cells c2 t2)).alloc (.cells c3 t3)) w.heap.size t0 c0.toList ∧
    Blk ((((w.alloc (.cells c0 t0)).alloc (.cells c1 t1)).alloc (.cells c2 t2)).alloc (.cells c3 t3)) (w.heap.size + 1) t1 c1.toList ∧
    Blk ((((w.alloc (.cells c0 t0)).alloc (.cells c1 t1)).alloc (.cells c2 t2)).alloc (.cells c3 t3)) (w.heap.size + 2) t2 c2.toList ∧
    Blk ((((w.alloc (.cells c0 t0)).alloc (.cells c1 t1)).alloc (.cells c2 t2)).alloc (.cells c3 t3)) (w.heap.size + 3) t3 c3.toList ∧
    ((((w.alloc (.cells c0 t0)).alloc (.cells c1 t1)).alloc (.cells c2 t2)).alloc (.cells c3 t3)).heap.size = w.heap.size + 4 ∧
    Below w.heap.size w ((((w.alloc (.cells c0 t0)).alloc (.cells c1 t1)).alloc (.cells c2 t2)).alloc (.cells c3 t3)) := by
  have e1 : (w.alloc (.cells c0 t0)).heap.size = w.heap.size + 1 := by simp
  have e2 : ((w.alloc (.cells c0 t0)).alloc (.cells c1 t1)).heap.size = w.heap.size + 2 := by simp
  have e3 : (((w.alloc (.cells c0 t0)).alloc (.cells c1 t1)).alloc (.cells c2 t2)).heap.size = w.heap.size + 3 := by simp
  have b1 := blk_new (w.alloc (.cells c0 t0)) t1 c1
  have b2 := blk_new ((w.alloc (.cells c0 t0)).alloc (.cells c1 t1)) t2 c2
  have b3 := blk_new (((w.alloc (.cells c0 t0)).alloc (.cells c1 t1)).alloc (.cells c2 t2)) t3 c3
  rw [e1] at b1; rw [e2] at b2; rw [e3] at b3
  exact ⟨blk_alloc (blk_alloc (blk_alloc (blk_new w t0 c0) _) _) _, blk_alloc (blk_alloc b1 _) _, blk_alloc b2 _, b3, by simp,
    ((((Below.refl _ w).alloc (Nat.le_refl _) _).alloc (by omega) _).alloc (by omega) _).alloc (by omega) _⟩

def bv8 (x : UInt8) : Int := (x.toNat : Int)
def wb (x : UInt8) : BitVec 32 := BitVec.ofNat 32 x.toNat
theorem wb_conv (x : UInt8) : IntKind.u32.wrap (bv8 x) = wv (wb x) := by
  have := x.toNat_lt
  rw [IntKind.wrap_u32', bv8, wv, wb, BitVec.toNat_ofNat]; omega
theorem wv_mul (a : BitVec 32) (n : Nat) : IntKind.u32.wrap (wv a * 2 ^ n) = wv (a <<< n) := by rw [IntKind.wrap_u32', wv_shl]
theorem wv_mul24 (a : BitVec 32) : IntKind.u32.wrap (wv a * 16777216) = wv (a <<< 24) := wv_mul a 24
theorem wv_mul16 (a : BitVec 32) : IntKind.u32.wrap (wv a * 65536) = wv (a <<< 16) := wv_mul a 16
theorem wv_mul8 (a : BitVec 32) : IntKind.u32.wrap (wv a * 256) = wv (a <<< 8) := wv_mul a 8
attribute [local go_sem] wv_unot wv_addm wv_mul24 wv_mul16 wv_mul8 wb_conv wv_add wv_bits_and wv_bits_or wv_bits_xor wv_shr wv_shl wv_shr3 wv_shr10 wv_not wv_not'
def word4 (a b c d : UInt8) : BitVec 32 := wb a <<< 24 ||| wb b <<< 16 ||| wb c <<< 8 ||| wb d
def ssig0 (x : BitVec 32) : BitVec 32 := rotr x 7 ^^^ rotr x 18 ^^^ (x >>> 3)
def ssig1 (x : BitVec 32) : BitVec 32 := rotr x 17 ^^^ rotr x 19 ^^^ (x >>> 10)
def sched (bs : List UInt8) : Nat → List (BitVec 32)
  | 0 => []
  | k + 1 => let p := sched bs k
    p ++ [if k < 16 then word4 (bs.getD (4 * k) 0) (bs.getD (4 * k + 1) 0) (bs.getD (4 * k + 2) 0) (bs.getD (4 * k + 3) 0)
      else p.getD (k - 16) 0 + ssig0 (p.getD (k - 15) 0) + p.getD (k - 7) 0 + ssig1 (p.getD (k - 2) 0)]
theorem sched_length (bs : List UInt8) : ∀ k, (sched bs k).length = k
  | 0 => rfl
  | k + 1 => by simp [sched, sched_length bs k]
def nextW (bs : List UInt8) (k : Nat) : BitVec 32 :=
  if k < 16 then word4 (bs.getD (4 * k) 0) (bs.getD (4 * k + 1) 0) (bs.getD (4 * k + 2) 0) (bs.getD (4 * k + 3) 0)
      else (sched bs k).getD (k - 16) 0 + ssig0 ((sched bs k).getD (k - 15) 0) + (sched bs k).getD (k - 7) 0 + ssig1 ((sched bs k).getD (k - 2) 0)
theorem sched_next (bs : List UInt8) (k : Nat) : sched bs (k + 1) = sched bs k ++ [nextW bs k] := rfl
def schedW (bs : List UInt8) (k : Nat) : List Value := w32s (sched bs k ++ List.replicate (64 - k) 0)

theorem schedW_set (bs : List UInt8) (k : Nat) (h : k < 64) : (schedW bs k).set k (.int .u32 (wv (nextW bs k))) = schedW bs (k + 1) := by
  unfold schedW w32s
  rw [sched_next]
  obtain ⟨m, hm⟩ : ∃ m, 64 - k = m + 1 := ⟨63 - k, by omega⟩
  rw [hm, show 64 - (k + 1) = m from by omega, List.replicate_succ]
  simp only [List.map_append, List.map_cons, List.append_assoc, List.cons_append, List.nil_append]
  rw [List.set_append, if_neg (by simp [sched_length])]
  simp [sched_length]
theorem schedW_at (bs : List UInt8) (k j : Nat) (h : j < k) : (schedW bs k)[j]? = some (.int .u32 (wv ((sched bs k).getD j 0))) := by
  unfold schedW w32s
  have h1 : j < (sched bs k).length := by rw [sched_length]; exact h
  rw [List.map_append, List.getElem?_append_left (by simpa using h1)]
  simp [h1]
theorem schedW_at0 (bs : List UInt8) (k : Nat) (h : k < 64) : (schedW bs k)[k]? = some (.int .u32 (wv 0)) := by
  unfold schedW w32s
  obtain ⟨m, hm⟩ : ∃ m, 64 - k = m + 1 := ⟨63 - k, by omega⟩
  rw [hm, List.replicate_succ]
  simp [sched_length]
theorem w32s_at (l : List (BitVec 32)) (j : Nat) (h : j < l.length) : (w32s l)[j]? = some (.int .u32 (wv (l.getD j 0))) := by simp [w32s, h]

structure S8 where
  a : BitVec 32
  b : BitVec 32
  c : BitVec 32
  d : BitVec 32
  e : BitVec 32
  f : BitVec 32
  g : BitVec 32
  h : BitVec 32
def S8.vals (s : S8) : List Value := [.int .u32 (wv s.a), .int .u32 (wv s.b), .int .u32 (wv s.c), .int .u32 (wv s.d), .int .u32 (wv s.e), .int .u32 (wv s.f), .int .u32 (wv s.g), .int .u32 (wv s.h)]
def S8.zero : S8 := ⟨0, 0, 0, 0, 0, 0, 0, 0⟩
def S8.list (s : S8) : List (BitVec 32) := [s.a, s.b, s.c, s.d, s.e, s.f, s.g, s.h]
theorem vals_one (s : S8) : s.vals.toArray.all (·.oneCell') = true := by simp [S8.vals, Value.oneCell']
def bsig1 (x : BitVec 32) : BitVec 32 := rotr x 6 ^^^ rotr x 11 ^^^ rotr x 25
def bsig0 (x : BitVec 32) : BitVec 32 := rotr x 2 ^^^ rotr x 13 ^^^ rotr x 22
def S8.t1 (s : S8) (k w : BitVec 32) : BitVec 32 := s.h + bsig1 s.e + (s.e &&& s.f ^^^ ~~~s.e &&& s.g) + k + w
def S8.t2 (s : S8) : BitVec 32 := bsig0 s.a + (s.a &&& s.b ^^^ s.a &&& s.c ^^^ s.b &&& s.c)
def S8.step (s : S8) (k w : BitVec 32) : S8 := ⟨s.t1 k w + s.t2, s.a, s.b, s.c, s.d + s.t1 k w, s.e, s.f, s.g⟩
def S8.rounds (K W : List (BitVec 32)) (s : S8) : Nat → S8
  | 0 => s
  | k + 1 => (S8.rounds K W s k).step (K.getD k 0) (W.getD k 0)
def S8.add (s t : S8) : S8 := ⟨s.a + t.a, s.b + t.b, s.c + t.c, s.d + t.d, s.e + t.e, s.f + t.f, s.g + t.g, s.h + t.h⟩

def mix (s t : S8) (m : Nat) : List (BitVec 32) := (s.add t).list.take m ++ s.list.drop m
theorem mix_set (s t : S8) : ∀ m, m < 8 → (w32s (mix s t m)).set m (.int .u32 (wv (s.list.getD m 0 + t.list.getD m 0))) = w32s (mix s t (m + 1))
  | 0, _ => rfl
  | 1, _ => rfl
  | 2, _ => rfl
  | 3, _ => rfl
  | 4, _ => rfl
  | 5, _ => rfl
  | 6, _ => rfl
  | 7, _ => rfl
  | n + 8, h => by omega
theorem mix_at (s t : S8) : ∀ m, m < 8 → (w32s (mix s t m))[m]? = some (.int .u32 (wv (s.list.getD m 0)))
  | 0, _ => rfl
  | 1, _ => rfl
  | 2, _ => rfl
  | 3, _ => rfl
  | 4, _ => rfl
  | 5, _ => rfl
  | 6, _ => rfl
  | 7, _ => rfl
  | n + 8, h => by omega
theorem list_at (s : S8) : ∀ m, m < 8 → s.vals[m]? = some (.int .u32 (wv (s.list.getD m 0)))
  | 0, _ => rfl
  | 1, _ => rfl
  | 2, _ => rfl
  | 3, _ => rfl
  | 4, _ => rfl
  | 5, _ => rfl
  | 6, _ => rfl
  | 7, _ => rfl
  | n + 8, h => by omega
theorem wpList_copy7 {w : World} {ops : Array Oper} {rest : List Oper} {o : Oper} {a : Act} {Q : Exit → Act → World → Prop} (hgd : o.guard = none) (d s : Operand)
    (ho : o.op = .call { callee := .builtin .copy, args := #[d, s], argTypes := #[52, 52] }) (g c1 c2 : Nat)
    (hd : a.eval d = .slice (some ⟨g, 1, none⟩) 7 c1) (hs : a.eval s = .slice (some ⟨g, 0, none⟩) 7 c2) (x : S8) (hb : Blk w g 44 x.vals)
    (h : ∀ W2, Blk W2 g 44 (S8.vals ⟨x.a, x.a, x.b, x.c, x.d, x.e, x.f, x.g⟩) → w.grownBy W2 (some g) → W2.heap.size = w.heap.size → wpList Try.prog ops Q rest (a.put o.dst (.int .i64 7)) W2) :
    wpList Try.prog ops Q (o :: rest) a w := by
  refine wpList_plain hgd fun K hK => ?_
  have hr := run_copy_row (P := Try.prog) (ty := o.type) w 52 52 43 g 1 7 c1 ⟨g, 0, none⟩ 7 c2 x.vals.toArray 44 (x.vals.take 7) Try.underlying52 (by kernel_rfl) hb rfl
    (fun j v hv => by
      have hadd : (⟨g, 0, none⟩ : Addr).add j = ⟨g, j, none⟩ := by unfold Addr.add; split <;> simp_all
      rw [hadd, blk_cell hb]
      rw [List.getElem?_take] at hv
      split at hv
      · exact hv
      · cases hv) (by simp [S8.vals]) (by simp [S8.vals, Value.oneCell'])
  unfold Oper.wp execOp
  simp only [ho, resolve, invoke, builtin, Sem.run_bind, Sem.run_pure, Result.andThen_ok, List.map_toArray, List.map_cons, List.map_nil, hd, hs, hr]
  refine hK _ _ (h _ ?_ ?_ (setRow_size _ _ _))
  · exact setRow_heap w g _ _ 44 (0, 0) hb
  · exact ⟨rfl, rfl, rfl, by simp, fun k _ hk => setRow_other w g k _ (fun e => hk (by rw [e]))⟩

set_option maxHeartbeats 4000000 in
set_option maxRecDepth 100000 in
theorem block_any (h : S8) (K : List (BitVec 32)) (bs : List UInt8) (g off cap : Nat) (w : World) (hK : K.length = 64)
   (hg : g < w.heap.size) (hc : ∀ j, j < 64 → w.cell? ⟨g, off + j, none⟩ = some (.int .u8 (bv8 (bs.getD j 0)))) (_hcap : 64 ≤ cap) :
    Calls Try.prog 19 #[.agg h.vals.toArray, .slice (some ⟨g, off, none⟩) 64 cap, .agg (w32s K).toArray] w fun e w' => e = .returned (.agg (h.add (S8.rounds K (sched bs 64) h 64)).vals.toArray) ∧ Below w.heap.size w w' := by
  have HK := Lib.hid hK; have Hc := Lib.hid hc; clear hK hc
  go_enter Try.func19, Try.ntmps19
  go_wp2_with fail
  go_loopw [22] (fun i wr => ∃ k : Nat, k ≤ 64 ∧ i = .int .i64 k ∧ Blk wr w.heap.size 44 h.vals ∧ Blk wr (w.heap.size + 1) 46 (w32s K) ∧ Blk wr (w.heap.size + 2) 44 S8.zero.vals ∧ Blk wr (w.heap.size + 3) 46 (schedW bs k) ∧ wr.heap.size = w.heap.size + 4 ∧ Below w.heap.size w wr)
    (fun i _ => 64 - (intOf i).toNat)
  case atStart =>
    obtain ⟨q0, q1, q2, q3, q4, q5⟩ := blk4 w h.vals.toArray (w32s K).toArray #[.int .u32 0, .int .u32 0, .int .u32 0, .int .u32 0, .int .u32 0, .int .u32 0, .int .u32 0, .int .u32 0] (schedW bs 0).toArray 44 46 44 46
    exact ⟨0, by omega, rfl, q0, q1, q2, q3, q4, q5⟩
  case round =>
    obtain ⟨k, hk, rfl, b0, b1, b2, b3, hsz, hB⟩ := hrel
    by_cases hk64 : k < 64
    · by_cases hk16 : k < 16
      · have c0 : wr.cell? ⟨g, off + 4 * k, none⟩ = some (.int .u8 (bv8 (bs.getD (4 * k) 0))) := by rw [hB.cell hg]; exact Hc.out (4 * k) (by omega)
        have c1 : wr.cell? ⟨g, off + (4 * k + 1), none⟩ = some (.int .u8 (bv8 (bs.getD (4 * k + 1) 0))) := by rw [hB.cell hg]; exact Hc.out (4 * k + 1) (by omega)
        have c2 : wr.cell? ⟨g, off + (4 * k + 2), none⟩ = some (.int .u8 (bv8 (bs.getD (4 * k + 2) 0))) := by rw [hB.cell hg]; exact Hc.out (4 * k + 2) (by omega)
        have c3 : wr.cell? ⟨g, off + (4 * k + 3), none⟩ = some (.int .u8 (bv8 (bs.getD (4 * k + 3) 0))) := by rw [hB.cell hg]; exact Hc.out (4 * k + 3) (by omega)
        have hw : wr.cell? ⟨w.heap.size + 3, k, none⟩ = some (.int .u32 (wv 0)) := by
          rw [blk_cell b3 k]; exact schedW_at0 bs k hk64
        have hf : wr.frozen? ⟨w.heap.size + 3, k, none⟩ = false := blk_frozen b3 k
        have hn : nextW bs k = word4 (bs.getD (4 * k) 0) (bs.getD (4 * k + 1) 0) (bs.getD (4 * k + 2) 0) (bs.getD (4 * k + 3) 0) := if_pos hk16
        generalize bs.getD (4 * k) 0 = x0 at *
        generalize bs.getD (4 * k + 1) 0 = x1 at *
        generalize bs.getD (4 * k + 2) 0 = x2 at *
        generalize bs.getD (4 * k + 3) 0 = x3 at *
        have m0 : IntKind.i64.wrap (4 * (k : Int)) = ((4 * k : Nat) : Int) := by rw [IntKind.wrap_i64]; omega
        have m1 : IntKind.i64.wrap (((4 * k : Nat) : Int) + 1) = ((4 * k + 1 : Nat) : Int) := by rw [IntKind.wrap_i64]; omega
        have m2 : IntKind.i64.wrap (((4 * k : Nat) : Int) + 2) = ((4 * k + 2 : Nat) : Int) := by rw [IntKind.wrap_i64]; omega
        have m3 : IntKind.i64.wrap (((4 * k : Nat) : Int) + 3) = ((4 * k + 3 : Nat) : Int) := by rw [IntKind.wrap_i64]; omega
        have l0 : ((4 * k : Nat) : Int) < 64 := by omega
        have l1 : ((4 * k + 1 : Nat) : Int) < 64 := by omega
        have l2 : ((4 * k + 2 : Nat) : Int) < 64 := by omega
        have l3 : ((4 * k + 3 : Nat) : Int) < 64 := by omega
        generalize 4 * k + 1 = i1 at *
        generalize 4 * k + 2 = i2 at *
        generalize 4 * k + 3 = i3 at *
        generalize 4 * k = i0 at *
        have B0 := Lib.hid b0; have B1 := Lib.hid b1; have B2 := Lib.hid b2; have B3 := Lib.hid b3; have Hsz := Lib.hid hsz; clear b0 b1 b2 b3 hsz
        go_wp2_with fail
        go_still_tail 35, (by kernel_rfl)
        change wpList _ _ _ _ _ wr.drew
        have Hn := Lib.hid hn; clear hn
        go_wp2_with fail
        go_roundw
        case rel =>
          refine ⟨k + 1, by omega, by go_num, blk_far B0.out (by dsimp only; omega) _, blk_far B1.out (by dsimp only; omega) _, blk_far B2.out (by dsimp only; omega) _, ?_, by simp [Hsz.out], ?_⟩
          · rw [← schedW_set bs k hk64, Hn.out]
            exact blk_set B3.out k _
          · exact (hB.setCell (by dsimp only; omega) _).drew
        case measure => simp [intOf]; omega
      · have g15 : wr.cell? ⟨w.heap.size + 3, k - 15, none⟩ = some (.int .u32 (wv ((sched bs k).getD (k - 15) 0))) := by rw [blk_cell b3]; exact schedW_at bs k _ (by omega)
        have g2 : wr.cell? ⟨w.heap.size + 3, k - 2, none⟩ = some (.int .u32 (wv ((sched bs k).getD (k - 2) 0))) := by rw [blk_cell b3]; exact schedW_at bs k _ (by omega)
        have g16 : wr.cell? ⟨w.heap.size + 3, k - 16, none⟩ = some (.int .u32 (wv ((sched bs k).getD (k - 16) 0))) := by rw [blk_cell b3]; exact schedW_at bs k _ (by omega)
        have g7 : wr.cell? ⟨w.heap.size + 3, k - 7, none⟩ = some (.int .u32 (wv ((sched bs k).getD (k - 7) 0))) := by rw [blk_cell b3]; exact schedW_at bs k _ (by omega)
        have hw : wr.cell? ⟨w.heap.size + 3, k, none⟩ = some (.int .u32 (wv 0)) := by
          rw [blk_cell b3 k]; exact schedW_at0 bs k hk64
        have hf : wr.frozen? ⟨w.heap.size + 3, k, none⟩ = false := blk_frozen b3 k
        have hn : nextW bs k = (sched bs k).getD (k - 16) 0 + ssig0 ((sched bs k).getD (k - 15) 0) + (sched bs k).getD (k - 7) 0 + ssig1 ((sched bs k).getD (k - 2) 0) := if_neg hk16
        generalize (sched bs k).getD (k - 15) 0 = a15 at *
        generalize (sched bs k).getD (k - 2) 0 = a2 at *
        generalize (sched bs k).getD (k - 16) 0 = a16 at *
        generalize (sched bs k).getD (k - 7) 0 = a7 at *
        have m15 : IntKind.i64.wrap ((k : Int) - 15) = ((k - 15 : Nat) : Int) := by rw [IntKind.wrap_i64]; omega
        have m2 : IntKind.i64.wrap ((k : Int) - 2) = ((k - 2 : Nat) : Int) := by rw [IntKind.wrap_i64]; omega
        have m16 : IntKind.i64.wrap ((k : Int) - 16) = ((k - 16 : Nat) : Int) := by rw [IntKind.wrap_i64]; omega
        have m7 : IntKind.i64.wrap ((k : Int) - 7) = ((k - 7 : Nat) : Int) := by rw [IntKind.wrap_i64]; omega
        have l15 : ((k - 15 : Nat) : Int) < 64 := by omega
        have l2 : ((k - 2 : Nat) : Int) < 64 := by omega
        have l16 : ((k - 16 : Nat) : Int) < 64 := by omega
        have l7 : ((k - 7 : Nat) : Int) < 64 := by omega
        generalize k - 15 = j15 at *
        generalize k - 2 = j2 at *
        generalize k - 16 = j16 at *
        generalize k - 7 = j7 at *
        have B0 := Lib.hid b0; have B1 := Lib.hid b1; have B2 := Lib.hid b2; have B3 := Lib.hid b3; have Hsz := Lib.hid hsz; clear b0 b1 b2 b3 hsz
        have Hn := Lib.hid hn; clear hn
        go_wp2_with fail
        go_quiet (fail)
        go_wp2_with (go_at_call 24; refine (rot_any _ _ _ (by decide) (by decide)).mono ?_; rintro e w' ⟨rfl, rfl⟩)
        have g16' : (wr.drewN nq).cell? ⟨w.heap.size + 3, j16, none⟩ = some (.int .u32 (wv a16)) := g16
        have g7' : (wr.drewN nq).cell? ⟨w.heap.size + 3, j7, none⟩ = some (.int .u32 (wv a7)) := g7
        have hw' : (wr.drewN nq).cell? ⟨w.heap.size + 3, k, none⟩ = some (.int .u32 (wv 0)) := hw
        have hf' : (wr.drewN nq).frozen? ⟨w.heap.size + 3, k, none⟩ = false := hf
        have B0 : Hid (Blk (wr.drewN nq) w.heap.size 44 h.vals) := B0
        have B1 : Hid (Blk (wr.drewN nq) (w.heap.size + 1) 46 (w32s K)) := B1
        have B2 : Hid (Blk (wr.drewN nq) (w.heap.size + 2) 44 S8.zero.vals) := B2
        have B3 : Hid (Blk (wr.drewN nq) (w.heap.size + 3) 46 (schedW bs k)) := B3
        have Hsz : Hid ((wr.drewN nq).heap.size = w.heap.size + 4) := Hsz
        have hB : Below w.heap.size w (wr.drewN nq) := below_drewN hB nq
        clear g16 g7 hw hf g15 g2
        generalize wr.drewN nq = W at *
        go_still_tail 15, (by kernel_rfl)
        change wpList _ _ _ _ _ W.drew
        go_wp2_with fail
        go_roundw
        case rel =>
          refine ⟨k + 1, by omega, by go_num, blk_far B0.out (by dsimp only; omega) _, blk_far B1.out (by dsimp only; omega) _, blk_far B2.out (by dsimp only; omega) _, ?_, by simp [Hsz.out], ?_⟩
          · rw [← schedW_set bs k hk64, Hn.out]
            exact blk_set B3.out k _
          · exact (hB.setCell (by dsimp only; omega) _).drew
        case measure => simp [intOf]; omega
    · obtain rfl : k = 64 := by omega
      have B0 := Lib.hid b0; have B1 := Lib.hid b1; have B2 := Lib.hid b2; have B3 := Lib.hid b3; have Hsz := Lib.hid hsz; clear b0 b1 b2 b3 hsz
      go_wp2_with (refine wpList_load_row rfl 44 _ rfl w.heap.size rfl 44 #[.int .u32 (wv h.a), .int .u32 (wv h.b), .int .u32 (wv h.c), .int .u32 (wv h.d), .int .u32 (wv h.e), .int .u32 (wv h.f), .int .u32 (wv h.g), .int .u32 (wv h.h)] (0, 0) _ B0.out Try.underlying44 rfl (by kernel_rfl) ?_)
      obtain ⟨w1, rfl⟩ : ∃ w1 : World, w1 = wr := ⟨_, rfl⟩
      have hbs := hB.size
      have hVB : w.heap.size + 3 < w1.heap.size := by rw [Hsz.out]; omega
      go_loopw [103] (fun i w2 => ∃ j : Nat, j ≤ 64 ∧ i = .int .i64 j ∧ Blk w2 w.heap.size 44 h.vals ∧ Blk w2 (w.heap.size + 1) 46 (w32s K) ∧ Blk w2 (w.heap.size + 2) 44 S8.zero.vals ∧ Blk w2 (w.heap.size + 3) 46 (schedW bs 64) ∧
          Blk w2 w1.heap.size 44 (S8.rounds K (sched bs 64) h j).vals ∧ w2.heap.size = w1.heap.size + 1 ∧ Below w.heap.size w w2)
        (fun i _ => 64 - (intOf i).toNat)
      case atStart =>
        exact ⟨0, by omega, rfl, blk_alloc B0.out _, blk_alloc B1.out _, blk_alloc B2.out _, blk_alloc B3.out _, blk_new w1 44 _, by simp, hB.alloc hbs _⟩
      case round =>
        obtain ⟨j, hj, rfl, p0, p1, p2, p3, p4, psz, hB2⟩ := hrel
        by_cases hj64 : j < 64
        · have hs : S8.rounds K (sched bs 64) h (j + 1) = (S8.rounds K (sched bs 64) h j).step (K.getD j 0) ((sched bs 64).getD j 0) := rfl
          have ck : wr.cell? ⟨w.heap.size + 1, j, none⟩ = some (.int .u32 (wv (K.getD j 0))) := by rw [blk_cell p1]; exact w32s_at K j (by rw [HK.out]; exact hj64)
          have cw : wr.cell? ⟨w.heap.size + 3, j, none⟩ = some (.int .u32 (wv ((sched bs 64).getD j 0))) := by rw [blk_cell p3]; exact schedW_at bs 64 j hj64
          generalize S8.rounds K (sched bs 64) h j = st at *
          generalize K.getD j 0 = kj at *
          generalize (sched bs 64).getD j 0 = wj at *
          have v0 : wr.cell? ⟨w1.heap.size, 0, none⟩ = some (.int .u32 (wv st.a)) := blk_cell p4 0
          have v1 : wr.cell? ⟨w1.heap.size, 1, none⟩ = some (.int .u32 (wv st.b)) := blk_cell p4 1
          have v2 : wr.cell? ⟨w1.heap.size, 2, none⟩ = some (.int .u32 (wv st.c)) := blk_cell p4 2
          have v4 : wr.cell? ⟨w1.heap.size, 4, none⟩ = some (.int .u32 (wv st.e)) := blk_cell p4 4
          have v5 : wr.cell? ⟨w1.heap.size, 5, none⟩ = some (.int .u32 (wv st.f)) := blk_cell p4 5
          have v6 : wr.cell? ⟨w1.heap.size, 6, none⟩ = some (.int .u32 (wv st.g)) := blk_cell p4 6
          have v7 : wr.cell? ⟨w1.heap.size, 7, none⟩ = some (.int .u32 (wv st.h)) := blk_cell p4 7
          have P0 := Lib.hid p0; have P1 := Lib.hid p1; have P2 := Lib.hid p2; have P3 := Lib.hid p3; have P4 := Lib.hid p4; have Psz := Lib.hid psz; have Hs := Lib.hid hs; clear p0 p1 p2 p3 p4 psz hs
          have Et1 : Hid (st.h + (rotr st.e 6 ^^^ rotr st.e 11 ^^^ rotr st.e 25) + (st.e &&& st.f ^^^ ~~~st.e &&& st.g) + kj + wj = st.t1 kj wj) := rfl
          have Et2 : Hid ((rotr st.a 2 ^^^ rotr st.a 13 ^^^ rotr st.a 22) + (st.a &&& st.b ^^^ st.a &&& st.c ^^^ st.b &&& st.c) = st.t2) := rfl
          go_wp2_with fail
          go_quiet (fail)
          obtain ⟨n1, rfl⟩ : ∃ n1 : Nat, n1 = nq := ⟨_, rfl⟩
          go_wp2_with (go_at_call 24; refine (rot_any _ _ _ (by decide) (by decide)).mono ?_; rintro e w' ⟨rfl, rfl⟩)
          go_quiet (fail)
          go_wp2_with (go_at_call 24; refine (rot_any _ _ _ (by decide) (by decide)).mono ?_; rintro e w' ⟨rfl, rfl⟩)
          rw [Et1.out, Et2.out]
          have P0 : Hid (Blk (wr.drewN (n1 + nq)) w.heap.size 44 h.vals) := P0
          have P1 : Hid (Blk (wr.drewN (n1 + nq)) (w.heap.size + 1) 46 (w32s K)) := P1
          have P2 : Hid (Blk (wr.drewN (n1 + nq)) (w.heap.size + 2) 44 S8.zero.vals) := P2
          have P3 : Hid (Blk (wr.drewN (n1 + nq)) (w.heap.size + 3) 46 (schedW bs 64)) := P3
          have P4 : Hid (Blk (wr.drewN (n1 + nq)) w1.heap.size 44 st.vals) := P4
          have Psz : Hid ((wr.drewN (n1 + nq)).heap.size = w1.heap.size + 1) := Psz
          have hB2 : Below w.heap.size w (wr.drewN (n1 + nq)) := below_drewN hB2 _
          clear ck cw v0 v1 v2 v4 v5 v6 v7
          generalize wr.drewN (n1 + nq) = W at *
          have Hs : Hid (S8.rounds K (sched bs 64) h (j + 1) = ⟨st.t1 kj wj + st.t2, st.a, st.b, st.c, st.d + st.t1 kj wj, st.e, st.f, st.g⟩) := Hs
          generalize st.t1 kj wj = T1 at *
          generalize st.t2 = T2 at *
          go_still_tail 2, (by kernel_rfl)
          change wpList _ _ _ _ _ W.drew
          refine wpList_copy7 rfl (.tmp 166) (.tmp 167) rfl w1.heap.size 7 8 rfl rfl st (blk_drew P4.out) ?_
          intro W2 h2 hg2 hs2
          have u0 : W2.cell? ⟨w1.heap.size, 0, none⟩ = some (.int .u32 (wv st.a)) := blk_cell h2 0
          have u4 : W2.cell? ⟨w1.heap.size, 4, none⟩ = some (.int .u32 (wv st.d)) := blk_cell h2 4
          have f0 := blk_frozen h2 0
          have f4 := blk_frozen h2 4
          have H2 := Lib.hid h2
          have Q0 : Hid (Blk W2 w.heap.size 44 h.vals) := (hg2.block _ (blk_lt (blk_drew P0.out)) (by simp; omega)).trans P0.out
          have Q1 : Hid (Blk W2 (w.heap.size + 1) 46 (w32s K)) := (hg2.block _ (blk_lt (blk_drew P1.out)) (by simp; omega)).trans P1.out
          have Q2 : Hid (Blk W2 (w.heap.size + 2) 44 S8.zero.vals) := (hg2.block _ (blk_lt (blk_drew P2.out)) (by simp; omega)).trans P2.out
          have Q3 : Hid (Blk W2 (w.heap.size + 3) 46 (schedW bs 64)) := (hg2.block _ (blk_lt (blk_drew P3.out)) (by simp; omega)).trans P3.out
          have Qsz : Hid (W2.heap.size = w1.heap.size + 1) := hs2.trans Psz.out
          have hB3 : Below w.heap.size w W2 := hB2.drew.grown hg2 (by show w.heap.size ≤ W.heap.size; rw [Psz.out]; omega) (fun k hk => by cases hk; exact hbs)
          clear h2 hg2 hs2 P0 P1 P2 P3 P4 Psz hB2
          go_wp2_with fail
          go_roundw
          case rel =>
            refine ⟨j + 1, by omega, by go_num, blk_far (blk_far Q0.out (by dsimp only; omega) _) (by dsimp only; omega) _, blk_far (blk_far Q1.out (by dsimp only; omega) _) (by dsimp only; omega) _, blk_far (blk_far Q2.out (by dsimp only; omega) _) (by dsimp only; omega) _, blk_far (blk_far Q3.out (by dsimp only; omega) _) (by dsimp only; omega) _, ?_, by simp [Qsz.out], (hB3.setCell (by dsimp only; omega) _).setCell (by dsimp only; omega) _⟩
            rw [Hs.out]
            exact blk_set (blk_set H2.out 4 _) 0 _
          case measure => simp [intOf]; omega
        · obtain rfl : j = 64 := by omega
          generalize hst : S8.rounds K (sched bs 64) h 64 = st at *
          have Hst := Lib.hid hst; clear hst
          have P0 := Lib.hid p0; have P2 := Lib.hid p2; have P4 := Lib.hid p4; have Psz := Lib.hid psz; clear p0 p1 p2 p3 p4 psz
          clear B0 B1 B2 B3
          have e64 : ((64 : Nat) : Int) = 64 := rfl
          rw [e64]
          clear e64
          go_wp2_with fail
          obtain ⟨w2, rfl⟩ : ∃ w2 : World, w2 = wr := ⟨_, rfl⟩
          go_loopw [179] (fun i w3 => ∃ m : Nat, m ≤ 8 ∧ i = .int .i64 m ∧ Blk w3 w.heap.size 44 (w32s (mix h st m)) ∧ Blk w3 (w.heap.size + 2) 44 S8.zero.vals ∧ Blk w3 w1.heap.size 44 st.vals ∧ Below w.heap.size w w3)
            (fun i _ => 8 - (intOf i).toNat)
          case atStart => exact ⟨0, by omega, rfl, P0.out, P2.out, P4.out, hB2⟩
          case round =>
            obtain ⟨m, hm, rfl, r0, r2, r4, hB3⟩ := hrel
            by_cases hm8 : m < 8
            · have ch : wr.cell? ⟨w.heap.size, m, none⟩ = some (.int .u32 (wv (h.list.getD m 0))) := by rw [blk_cell r0]; exact mix_at h st m hm8
              have cv : wr.cell? ⟨w1.heap.size, m, none⟩ = some (.int .u32 (wv (st.list.getD m 0))) := by rw [blk_cell r4]; exact list_at st m hm8
              have hf := blk_frozen r0 m
              have hms := mix_set h st m hm8
              generalize h.list.getD m 0 = x at *
              generalize st.list.getD m 0 = y at *
              have R0 := Lib.hid r0; have R2 := Lib.hid r2; have R4 := Lib.hid r4; have Hms := Lib.hid hms; clear r0 r2 r4 hms P0 P2 P4 Psz
              have l8 : (m : Int) < 8 := by omega
              go_wp2_with fail
              go_still_tail 8, (by kernel_rfl)
              change wpList _ _ _ _ _ wr.drew
              go_wp2_with fail
              go_roundw
              case rel =>
                refine ⟨m + 1, by omega, by go_num, ?_, blk_far R2.out (by dsimp only; omega) _, blk_far R4.out (by dsimp only; omega) _, (hB3.setCell (Nat.le_refl _) _).drew⟩
                rw [← Hms.out]
                exact blk_set R0.out m _
              case measure => simp [intOf]; omega
            · obtain rfl : m = 8 := by omega
              have R0 := Lib.hid r0; have R2 := Lib.hid r2; clear r0 r2 r4 P0 P2 P4 Psz
              go_wp2_with (first
                | refine wpList_load_row rfl 44 _ rfl w.heap.size rfl 44 (h.add st).vals.toArray (0, 0) _ R0.out Try.underlying44 rfl (by kernel_rfl) ?_
                | (refine wpList_store_row rfl 44 (.tmp 6) (.tmp 191) rfl (w.heap.size + 2) (h.add st).vals.toArray rfl rfl 44 S8.zero.vals.toArray R2.out (by kernel_rfl) rfl (vals_one _) ?_))
              have hl : (loadVar 44 ⟨w.heap.size + 2, 0, none⟩).run Try.prog (wr.setRow (w.heap.size + 2) (h.add st).vals.toArray) = .ok (.agg (h.add st).vals.toArray) (wr.setRow (w.heap.size + 2) (h.add st).vals.toArray) :=
                run_loadVar_row _ _ 44 44 _ (0, 0) _ (setRow_heap _ _ _ _ 44 (0, 0) R2.out) Try.underlying44 rfl (by kernel_rfl)
              refine bodyPost_ret (v := .agg (h.add st).vals.toArray) ?_ rfl ⟨by rw [Hst.out], ?_⟩
              · rw [results_cell1 Try.results19]
                exact hl
              · exact below_setRow hB3 (by omega) _
end Go.Proofs.Ytknoonkjkdjkbaa
