/-
  A part put where it belongs, walked.
-/
import Derived.Deep.RegionLaw
import Derived.Deep.AppendLies
import Derived.Test.YthilkpjdfjjikaaDoorNsqM
set_option linter.unusedVariables false
set_option linter.unusedSimpArgs false
namespace Go.Proofs.YthilkpjdfjjikaaDoor
open Go.RowKit
attribute [local go_sem ↓] Go.wp_at_zero Go.wp_at_succ

theorem info74 : (Tryd.prog.info? 74).map (fun i => (i.zero, i.size, i.bytes)) = some (some (.agg #[.int .i64 0, .int .i64 0, .string ⟨#[]⟩, .slice none 0 0, .string ⟨#[]⟩, .int .i64 0, .slice none 0 0, .slice none 0 0]), 8, 128) := by kernel_rfl
def zero8 : List Value := [.int .i64 0, .int .i64 0, .string ⟨#[]⟩, .slice none 0 0, .string ⟨#[]⟩, .int .i64 0, .slice none 0 0, .slice none 0 0]
theorem row_tail {w1 : World} {B g n cap : Nat} {xs : List Value} (h : w1.ownsRow B 74 8 (.slice (some ⟨g, 0, none⟩) (n + 1) cap) (n + 1) (xs ++ zero8)) (hx : xs.length = n * 8) (k : Nat) (hk : k < 8) :
    w1.cell? ⟨g, n * 8 + k, none⟩ = zero8[k]? ∧ w1.frozen? ⟨g, n * 8 + k, none⟩ = false := by
  refine ⟨?_, h.frozenAt _⟩
  rw [h.cellAt (n * 8 + k) (by omega), List.getElem?_append_right (by omega), hx, Nat.add_sub_cancel_left]
theorem zero8_one : ∀ u ∈ zero8, u.oneCell' = true := by intro u hu; simp only [zero8, List.mem_cons, List.mem_nil_iff, or_false] at hu; rcases hu with rfl | rfl | rfl | rfl | rfl | rfl | rfl | rfl <;> rfl
theorem grew_keep {W w1 : World} {o : Obj} {row : Option Nat} (h : (W.alloc o).drew.grownBy w1 row) (k : Nat) (hk : k < W.heap.size) (hr : row ≠ some k) : w1.heap[k]? = W.heap[k]? :=
  (h.block k (by show k < (W.alloc o).heap.size; simp; omega) (fun e => hr e.symm)).trans (Below.heap_alloc W o k hk)
theorem set_ap8 {α : Type} (X Y : List α) (k : Nat) (u : α) : (X ++ Y).set (X.length + k) u = X ++ Y.set k u := by
  rw [List.set_append_right _ _ (by omega)]
  congr 2
  omega
/-- Eight cells stored. -/
theorem store8 {w1 : World} {B g n cap : Nat} {xs : List Value} (h : w1.ownsRow B 74 8 (.slice (some ⟨g, 0, none⟩) (n + 1) cap) (n + 1) (xs ++ zero8)) (hx : xs.length = n * 8) (c0 c1 c2 c3 c4 c5 c6 c7 : Value) :
    ((((((((w1.setCell ⟨g, n * 8, none⟩ c0).setCell ⟨g, n * 8 + 1, none⟩ c1).setCell ⟨g, n * 8 + 2, none⟩ c2).setCell ⟨g, n * 8 + 3, none⟩ c3).setCell ⟨g, n * 8 + 4, none⟩ c4).setCell ⟨g, n * 8 + 5, none⟩ c5).setCell ⟨g, n * 8 + 6, none⟩ c6).setCell ⟨g, n * 8 + 7, none⟩ c7).ownsRow B 74 8 (.slice (some ⟨g, 0, none⟩) (n + 1) cap) (n + 1) (xs ++ [c0, c1, c2, c3, c4, c5, c6, c7]) ∧ w1.grownBy ((((((((w1.setCell ⟨g, n * 8, none⟩ c0).setCell ⟨g, n * 8 + 1, none⟩ c1).setCell ⟨g, n * 8 + 2, none⟩ c2).setCell ⟨g, n * 8 + 3, none⟩ c3).setCell ⟨g, n * 8 + 4, none⟩ c4).setCell ⟨g, n * 8 + 5, none⟩ c5).setCell ⟨g, n * 8 + 6, none⟩ c6).setCell ⟨g, n * 8 + 7, none⟩ c7) (some g) := by
  have s0 := h.stored (n * 8) c0
  have s1 := s0.1.stored (n * 8 + 1) c1
  have s2 := s1.1.stored (n * 8 + 2) c2
  have s3 := s2.1.stored (n * 8 + 3) c3
  have s4 := s3.1.stored (n * 8 + 4) c4
  have s5 := s4.1.stored (n * 8 + 5) c5
  have s6 := s5.1.stored (n * 8 + 6) c6
  have s7 := s6.1.stored (n * 8 + 7) c7
  have e : ∀ (Y : List Value) (k : Nat) (u : Value), (xs ++ Y).set (n * 8 + k) u = xs ++ Y.set k u := fun Y k u => by rw [← hx]; exact set_ap8 xs Y k u
  have e0 : ∀ (Y : List Value) (u : Value), (xs ++ Y).set (n * 8) u = xs ++ Y.set 0 u := fun Y u => e Y 0 u
  refine ⟨?_, ((((s0.2.trans s1.2).trans s2.2).trans s3.2).trans s4.2).trans ((s5.2.trans s6.2).trans s7.2)⟩
  have := s7.1
  rw [e0, e, e, e, e, e, e, e] at this
  exact this
/-- The part is stored, then the field; or the field first: what is known behind it. -/
def Stored8 (W w1 w' : World) (B N g n cap o t : Nat) (v u : Value) (cs xs ys : List Value) : Prop :=
  W.heap.size ≤ w'.heap.size ∧ (∀ k, k < W.heap.size → k ≠ N → v.ownBlock ≠ some k → w'.heap[k]? = W.heap[k]?) ∧ g < w'.heap.size ∧ Blk w' N t (cs.set o u) ∧ w'.ownsRow B 74 8 (.slice (some ⟨g, 0, none⟩) (n + 1) cap) (n + 1) (xs ++ ys) ∧ Below B W w'
theorem stored8_a {W w1 : World} {B N g n cap o t : Nat} {v u : Value} {cs xs : List Value} {ob : Obj} (hown : w1.ownsRow B 74 8 (.slice (some ⟨g, 0, none⟩) (n + 1) cap) (n + 1) (xs ++ zero8)) (hx : xs.length = n * 8) (hgrow : (W.alloc ob).drew.grownBy w1 v.ownBlock) (hat : v.ownBlock = some g ∨ g = W.heap.size + 1) (hlt : g < w1.heap.size)
    (hv : ∀ k, v.ownBlock = some k → B ≤ k ∧ k ≠ N) (hN : Blk W N t cs) (hNB : B ≤ N) (hBW : B ≤ W.heap.size) (c0 c1 c2 c3 c4 c5 c6 c7 : Value) :
    Stored8 W w1 (((((((((w1.setCell ⟨g, n * 8, none⟩ c0).setCell ⟨g, n * 8 + 1, none⟩ c1).setCell ⟨g, n * 8 + 2, none⟩ c2).setCell ⟨g, n * 8 + 3, none⟩ c3).setCell ⟨g, n * 8 + 4, none⟩ c4).setCell ⟨g, n * 8 + 5, none⟩ c5).setCell ⟨g, n * 8 + 6, none⟩ c6).setCell ⟨g, n * 8 + 7, none⟩ c7).setCell ⟨N, o, none⟩ u) B N g n cap o t v u cs xs [c0, c1, c2, c3, c4, c5, c6, c7] := by
  obtain ⟨h1, h2⟩ := store8 hown hx c0 c1 c2 c3 c4 c5 c6 c7
  obtain ⟨w2, hw2⟩ : ∃ w2, w2 = ((((((((w1.setCell ⟨g, n * 8, none⟩ c0).setCell ⟨g, n * 8 + 1, none⟩ c1).setCell ⟨g, n * 8 + 2, none⟩ c2).setCell ⟨g, n * 8 + 3, none⟩ c3).setCell ⟨g, n * 8 + 4, none⟩ c4).setCell ⟨g, n * 8 + 5, none⟩ c5).setCell ⟨g, n * 8 + 6, none⟩ c6).setCell ⟨g, n * 8 + 7, none⟩ c7) := ⟨_, rfl⟩
  rw [← hw2] at h1 h2 ⊢
  have hNl := blk_lt hN
  have hgN : g ≠ N := by rcases hat with h | h; exact (hv g h).2; omega
  have hgB : B ≤ g := by rcases hat with h | h; exact (hv g h).1; omega
  have hs1 : W.heap.size + 1 ≤ w1.heap.size := by have := hgrow.size; rw [show (W.alloc ob).drew.heap.size = W.heap.size + 1 from by show (W.alloc ob).heap.size = _; simp] at this; exact this
  have hs2 := h2.size
  have hk1 : ∀ k, k < W.heap.size → v.ownBlock ≠ some k → w1.heap[k]? = W.heap[k]? := fun k hk hr => grew_keep hgrow k hk hr
  have hk2 : ∀ k, k < W.heap.size → v.ownBlock ≠ some k → w2.heap[k]? = W.heap[k]? := fun k hk hr => (h2.block k (by omega) (by intro e; injection e with e; rcases hat with h | h; exact hr (e ▸ h); omega)).trans (hk1 k hk hr)
  have hk3 : ∀ k, k < W.heap.size → k ≠ N → v.ownBlock ≠ some k → (w2.setCell ⟨N, o, none⟩ u).heap[k]? = W.heap[k]? := fun k hk hn hr => (Below.heap_setCell w2 ⟨N, o, none⟩ u k hn).trans (hk2 k hk hr)
  have hN2 := blk_at hN (hk2 N hNl (fun e => (hv N e).2 rfl))
  have hsz : (w2.setCell ⟨N, o, none⟩ u).heap.size = w2.heap.size := by simp
  refine ⟨by omega, hk3, by omega, blk_set hN2 o u, ownsRow_heap h1 (fun k e => by cases e; exact Below.heap_setCell w2 ⟨N, o, none⟩ u g hgN), ?_⟩
  have hb1 : Below B W w1 := (((Below.refl B W).alloc hBW ob).drew).grown hgrow (by show B ≤ (W.alloc ob).heap.size; simp; omega) (fun k hk => (hv k hk).1)
  have hb2 : Below B W w2 := hb1.grown h2 (by omega) (fun k hk => by cases hk; exact hgB)
  exact hb2.setCell hNB _
theorem stored8_b {W w1 : World} {B N g n cap o t : Nat} {v u : Value} {cs xs : List Value} {ob : Obj} (hown : w1.ownsRow B 74 8 (.slice (some ⟨g, 0, none⟩) (n + 1) cap) (n + 1) (xs ++ zero8)) (hx : xs.length = n * 8) (hgrow : (W.alloc ob).drew.grownBy w1 v.ownBlock) (hat : v.ownBlock = some g ∨ g = W.heap.size + 1) (hlt : g < w1.heap.size)
    (hv : ∀ k, v.ownBlock = some k → B ≤ k ∧ k ≠ N) (hN : Blk W N t cs) (hNB : B ≤ N) (hBW : B ≤ W.heap.size) (c0 c1 c2 c3 c4 c5 c6 c7 : Value) :
    Stored8 W w1 ((((((((((w1.setCell ⟨N, o, none⟩ u).setCell ⟨g, n * 8, none⟩ c0).setCell ⟨g, n * 8 + 1, none⟩ c1).setCell ⟨g, n * 8 + 2, none⟩ c2).setCell ⟨g, n * 8 + 3, none⟩ c3).setCell ⟨g, n * 8 + 4, none⟩ c4).setCell ⟨g, n * 8 + 5, none⟩ c5).setCell ⟨g, n * 8 + 6, none⟩ c6).setCell ⟨g, n * 8 + 7, none⟩ c7)) B N g n cap o t v u cs xs [c0, c1, c2, c3, c4, c5, c6, c7] := by
  have hNl := blk_lt hN
  have hgN : g ≠ N := by rcases hat with h | h; exact (hv g h).2; omega
  have hgB : B ≤ g := by rcases hat with h | h; exact (hv g h).1; omega
  have hs1 : W.heap.size + 1 ≤ w1.heap.size := by have := hgrow.size; rw [show (W.alloc ob).drew.heap.size = W.heap.size + 1 from by show (W.alloc ob).heap.size = _; simp] at this; exact this
  have hk1 : ∀ k, k < W.heap.size → v.ownBlock ≠ some k → w1.heap[k]? = W.heap[k]? := fun k hk hr => grew_keep hgrow k hk hr
  have hsz : (w1.setCell ⟨N, o, none⟩ u).heap.size = w1.heap.size := by simp
  have hownN : (w1.setCell ⟨N, o, none⟩ u).ownsRow B 74 8 (.slice (some ⟨g, 0, none⟩) (n + 1) cap) (n + 1) (xs ++ zero8) := ownsRow_heap hown (fun k e => by cases e; exact Below.heap_setCell w1 ⟨N, o, none⟩ u g hgN)
  have hN1 := blk_set (blk_at hN (hk1 N hNl (fun e => (hv N e).2 rfl))) o u
  obtain ⟨w2, hw2⟩ : ∃ w2, w2 = w1.setCell ⟨N, o, none⟩ u := ⟨_, rfl⟩
  have hk2 : ∀ k, k < W.heap.size → k ≠ N → v.ownBlock ≠ some k → w2.heap[k]? = W.heap[k]? := fun k hk hn hr => by rw [hw2]; exact (Below.heap_setCell w1 ⟨N, o, none⟩ u k hn).trans (hk1 k hk hr)
  have hb1 : Below B W w1 := (((Below.refl B W).alloc hBW ob).drew).grown hgrow (by show B ≤ (W.alloc ob).heap.size; simp; omega) (fun k hk => (hv k hk).1)
  have hb2 : Below B W w2 := by rw [hw2]; exact hb1.setCell hNB _
  rw [← hw2] at hsz hownN hN1 ⊢
  obtain ⟨h1, h2⟩ := store8 hownN hx c0 c1 c2 c3 c4 c5 c6 c7
  have hs2 := h2.size
  refine ⟨by omega, fun k hk hn hr => (h2.block k (by omega) (by intro e; injection e with e; rcases hat with h | h; exact hr (e ▸ h); omega)).trans (hk2 k hk hn hr), by omega, blk_at hN1 (h2.block N (by omega) (by intro e; injection e with e; exact hgN e.symm)), h1, hb2.grown h2 (by omega) (fun k hk => by cases hk; exact hgB)⟩
theorem PN.more {w W : World} {L : List Nat} (hb : Below w.heap.size w W) {b : Nat} (h : PN w L b) : PN W L b := ⟨Nat.lt_of_lt_of_le h.1 hb.size, h.2⟩
theorem put_out_fin {W w1 w' : World} {B N g n cap : Nat} {v openV : Value} {out : List Part} (h : NI W B N v openV [] out) (hn : n = out.length) (hB : B ≤ W.heap.size) (p : Pc) (ks os : List Part) (pv kv ov : Value)
    (r1 : PathRd W (PN W (fbN N v openV [])) pv p.path) (r2 : VRd W (PN W (fbN N v openV [])) kv ks) (r3 : VRd W (PN W (fbN N v openV [])) ov os)
    (qs : List PV) (e : qs.map (·.1) = out) (hq : ∀ q ∈ qs, PathRd W (PN W (fbN N v openV [])) q.2.1 q.1.pc.path ∧ VRd W (PN W (fbN N v openV [])) q.2.2.1 q.1.kids ∧ VRd W (PN W (fbN N v openV [])) q.2.2.2 q.1.other)
    (hat : v.ownBlock = some g ∨ g = W.heap.size + 1)
    (hs : Stored8 W w1 w' B N g n cap 0 78 v (.slice (some ⟨g, 0, none⟩) (n + 1) cap) [v, openV] (qs.flatMap qcell) (ptc p pv kv ov)) :
    (∃ outV', NI w' B N outV' openV [] (out ++ [.mk p ks os])) ∧ Below B W w' := by
  subst hn
  obtain ⟨s1, s2, s3, s4, s5, s6⟩ := hs
  exact ⟨⟨_, NI.put_out h p ks os pv kv ov r1 r2 r3 qs e hq g cap s1 (fun k hk hn hr => s2 k hk hn hr) hB (hat.imp id (fun h => by omega)) s3 s4 s5⟩, s6⟩
set_option maxHeartbeats 8000000 in
set_option maxRecDepth 100000 in
theorem put_out_any (w : World) (B N : Nat) (outV openV : Value) (out : List Part) (h : NI w B N outV openV [] out) (hB : B ≤ w.heap.size) (hl : out.length ≤ 1000000) (p : Pc) (ks os : List Part) (Av Ak Ao : Option Addr) (cv ck co : Nat)
    (r1 : PathRd w (PN w (fbN N outV openV [])) (.slice Av p.path.length cv) p.path) (r2 : VRd w (PN w (fbN N outV openV [])) (.slice Ak ks.length ck) ks) (r3 : VRd w (PN w (fbN N outV openV [])) (.slice Ao os.length co) os) :
    Calls Tryd.prog 61 #[.pointer (some ⟨N, 0, none⟩), .agg #[.int .i64 p.kind, .int .i64 p.pos, .string (bs p.text), .slice Av p.path.length cv, .string (bs p.name), .int .i64 p.place, .slice Ak ks.length ck, .slice Ao os.length co]] w fun e w' => (∃ v, e = .returned v) ∧ (∃ outV', NI w' B N outV' openV [] (out ++ [.mk p ks os])) ∧ Below B w w' := by
  have H60 : Hid (∀ W, Below w.heap.size w W → Calls Tryd.prog 60 #[.pointer (some ⟨N, 0, none⟩)] W fun e w' => e = .returned (.pointer none) ∧ ∃ q, w' = W.drewN q) :=
    fun W hb => last_any W B N outV openV [] out (h.keep hb)
  obtain ⟨A, c, rfl, hc⟩ := h.out.form
  have HNI := Lib.hid h
  have hNl : N < w.heap.size := blk_lt h.blk
  have HR1 := Lib.hid r1; have HR2 := Lib.hid r2; have HR3 := Lib.hid r3
  clear h r1 r2 r3
  obtain ⟨i0, hi, hz0, hz1, hz2⟩ := info_parts info74
  obtain ⟨n, hn⟩ : ∃ n, n = out.length := ⟨_, rfl⟩
  rw [← hn] at hc hl HNI HR1 HR2 HR3
  have Hn := Lib.hid hn; clear hn
  go_enter Tryd.func61, Tryd.ntmps61
  go_upto_region 4 with (go_at_call 60; refine (H60.out _ ((Below.refl _ w).alloc (Nat.le_refl _) _)).mono ?_; rintro e w1 ⟨rfl, q, rfl⟩)
  have hb0 : Below w.heap.size w ((w.alloc (.cells #[.int .i64 p.kind, .int .i64 p.pos, .string (bs p.text), .slice Av p.path.length cv, .string (bs p.name), .int .i64 p.place, .slice Ak ks.length ck, .slice Ao os.length co] 74)).drewN q) := ((Below.refl _ w).alloc (Nat.le_refl _) _).trans ⟨rfl, rfl, rfl, Nat.le_refl _, fun _ _ => rfl⟩
  have hbx : Blk ((w.alloc (.cells #[.int .i64 p.kind, .int .i64 p.pos, .string (bs p.text), .slice Av p.path.length cv, .string (bs p.name), .int .i64 p.place, .slice Ak ks.length ck, .slice Ao os.length co] 74)).drewN q) w.heap.size 74 [.int .i64 p.kind, .int .i64 p.pos, .string (bs p.text), .slice Av p.path.length cv, .string (bs p.name), .int .i64 p.place, .slice Ak ks.length ck, .slice Ao os.length co] := blk_new w 74 _
  obtain ⟨W, hW⟩ : ∃ W, W = (w.alloc (.cells #[.int .i64 p.kind, .int .i64 p.pos, .string (bs p.text), .slice Av p.path.length cv, .string (bs p.name), .int .i64 p.place, .slice Ak ks.length ck, .slice Ao os.length co] 74)).drewN q := ⟨_, rfl⟩
  rw [← hW] at hb0 hbx ⊢
  clear hW
  have hNIW := HNI.out.keep hb0
  have hNl2 : N < W.heap.size := Nat.lt_of_lt_of_le hNl hb0.size
  have hBW : B ≤ W.heap.size := Nat.le_trans hB hb0.size
  obtain ⟨X, hX⟩ : ∃ X, X = w.heap.size := ⟨_, rfl⟩
  rw [← hX] at hbx ⊢
  have hXl : X < W.heap.size := blk_lt hbx
  have hXN : X ≠ N := by omega
  have e0 := blk_cell hbx 0; have e1 := blk_cell hbx 1; have e2 := blk_cell hbx 2; have e3 := blk_cell hbx 3; have e4 := blk_cell hbx 4; have e5 := blk_cell hbx 5; have e6 := blk_cell hbx 6; have e7 := blk_cell hbx 7
  have n0 := blk_cell hNIW.blk 0
  have m0 := blk_frozen hNIW.blk 0
  simp only [List.getElem?_cons_zero, List.getElem?_cons_succ] at e0 e1 e2 e3 e4 e5 e6 e7 n0
  obtain ⟨qs, hq1, hq2, hq3⟩ := hNIW.out
  rw [← Hn.out] at hq2
  have HB0 := Lib.hid hb0; have HQ1 := Lib.hid hq1; have HQ2 := Lib.hid hq2; have HQ3 := Lib.hid hq3; have HNIW := Lib.hid hNIW; have HX := Lib.hid hX
  have hxl : (qs.flatMap qcell).length = n * 8 := by rw [qcells_len, Hn.out, ← HQ1.out, List.length_map]
  have HXL := Lib.hid hxl
  have hNO : ∀ k, (Value.slice A n c).ownBlock = some k → k ≠ N := by
    intro k hk e
    have hnd := HNIW.out.nodup
    simp only [fbN, List.nodup_cons, List.mem_append, mem_ownL] at hnd
    exact hnd.1 (.inl (e ▸ hk))
  have HNB := Lib.hid HNIW.out.blk; have HNO := Lib.hid hNO
  clear hb0 hbx hq1 hq2 hq3 hNIW hX hxl hNO
  have g1 : IntKind.i64.wrap (n : Int) = (n : Int) := IntWalk.i64_in _ (by omega)
  have g4 : (0 : Int) ≤ (n : Int) := by omega
  have g5 : (n : Int) < (n : Int) + 1 := by omega
  have g6 : ((n : Int)).toNat = n := by omega
  go_region_law ((refine step_append_lies _ (by rfl) _ _ 37 (by rfl) B 74 i0 (.agg #[.int .i64 0, .int .i64 0, .string ⟨#[]⟩, .slice none 0 0, .string ⟨#[]⟩, .int .i64 0, .slice none 0 0, .slice none 0 0]) 8 128 Tryd.underlying37 hi hz0 hz1 hz2 rfl (by decide) (.slice A n c) n _ (by rfl) (own_drew (HQ2.out.alloc _)) ⟨W.heap.size, 0, none⟩ 1 1 zero8 (by rfl) (by rfl) (World.news_of_block (heap_alloc_new W _)) zero8_one (by decide) (by unfold maxLen; omega) (by omega) (by simp; omega) (W.heap.size + 1) (by simp) ?_; intro g cap w1 hown hgrow hat hlt; have hN1 := blk_at HNB.out (grew_keep hgrow N hNl2 (fun e => HNO.out N e rfl)); have hgN : g ≠ N := (by rcases hat with h | h; exact HNO.out g h; omega); have q0 := blk_cell hN1 0; have qf0 := blk_frozen hN1 0; simp only [List.getElem?_cons_zero] at q0; have z0 := (row_tail hown HXL.out 0 (by decide)).1; have y0 := (row_tail hown HXL.out 0 (by decide)).2; have z1 := (row_tail hown HXL.out 1 (by decide)).1; have y1 := (row_tail hown HXL.out 1 (by decide)).2; have z2 := (row_tail hown HXL.out 2 (by decide)).1; have y2 := (row_tail hown HXL.out 2 (by decide)).2; have z3 := (row_tail hown HXL.out 3 (by decide)).1; have y3 := (row_tail hown HXL.out 3 (by decide)).2; have z4 := (row_tail hown HXL.out 4 (by decide)).1; have y4 := (row_tail hown HXL.out 4 (by decide)).2; have z5 := (row_tail hown HXL.out 5 (by decide)).1; have y5 := (row_tail hown HXL.out 5 (by decide)).2; have z6 := (row_tail hown HXL.out 6 (by decide)).1; have y6 := (row_tail hown HXL.out 6 (by decide)).2; have z7 := (row_tail hown HXL.out 7 (by decide)).1; have y7 := (row_tail hown HXL.out 7 (by decide)).2; simp only [zero8, List.getElem?_cons_zero, List.getElem?_cons_succ, Nat.add_zero] at z0 z1 z2 z3 z4 z5 z6 z7; simp only [Nat.add_zero] at y0; have HO1 := Lib.hid hown; have HG1 := Lib.hid hgrow; have HA1 := Lib.hid hat; clear hown hgrow hat))
  all_goals
    have hv : ∀ k, (Value.slice A n c).ownBlock = some k → B ≤ k ∧ k ≠ N := fun k hk => ⟨(HQ2.out.lt k hk).1, HNO.out k hk⟩
    have hfin := fun w' hS => put_out_fin (w1 := w1) (w' := w') (g := g) (cap := cap) HNIW.out Hn.out hBW p ks os _ _ _ (HR1.out.frame (fun b hb => HB0.out.block b hb.1) (fun b hb => PN.more HB0.out hb)) (HR2.out.frame (fun b hb => HB0.out.block b hb.1) (fun b hb => PN.more HB0.out hb)) (HR3.out.frame (fun b hb => HB0.out.block b hb.1) (fun b hb => PN.more HB0.out hb)) qs HQ1.out HQ3.out HA1.out hS
    have hSA := hfin _ (stored8_a (o := 0) (u := .slice (some ⟨g, 0, none⟩) (n + 1) cap) HO1.out HXL.out HG1.out HA1.out hlt hv HNB.out (HNIW.out.lt N (by simp [fbN])).1 hBW (.int .i64 p.kind) (.int .i64 p.pos) (.string (bs p.text)) (.slice Av p.path.length cv) (.string (bs p.name)) (.int .i64 p.place) (.slice Ak ks.length ck) (.slice Ao os.length co))
    have hSB := hfin _ (stored8_b (o := 0) (u := .slice (some ⟨g, 0, none⟩) (n + 1) cap) HO1.out HXL.out HG1.out HA1.out hlt hv HNB.out (HNIW.out.lt N (by simp [fbN])).1 hBW (.int .i64 p.kind) (.int .i64 p.pos) (.string (bs p.text)) (.slice Av p.path.length cv) (.string (bs p.name)) (.int .i64 p.place) (.slice Ak ks.length ck) (.slice Ao os.length co))
    have HSA := Lib.hid hSA; have HSB := Lib.hid hSB
    clear hSA hSB hfin
    go_returns
    refine ⟨⟨_, rfl⟩, ?_, ?_⟩
    · first
        | with_reducible exact HSA.out.1
        | with_reducible exact HSB.out.1
    · first
        | with_reducible exact (HB0.out.mono hB).trans HSA.out.2
        | with_reducible exact (HB0.out.mono hB).trans HSB.out.2
end Go.Proofs.YthilkpjdfjjikaaDoor
