/-
  Texts of this seat, joined: Npk, Npo, Nta. Each says what it proves, ahead of itself.
-/
import Derived.StillTailTactics
import Derived.Outline
import Derived.Test.YthilkpjdfjjikaaDoorNpu
set_option linter.unusedVariables false
set_option linter.unusedSimpArgs false
section
/-
  A part put among a block's kids parts, walked.
-/
namespace Go.Proofs.YthilkpjdfjjikaaDoor
open Go.RowKit
attribute [local go_sem ↓] Go.wp_at_zero Go.wp_at_succ

theorem put_kids_fin {W w1 w' : World} {B N g n cap : Nat} {outV openV : Value} {x : FrM} {r : List FrM} {out : List Part} (h : NI W B N outV openV (x :: r) out) (hn : n = x.fr.kids.length) (hB : B ≤ W.heap.size) (p : Pc) (ks os : List Part) (pv kv ov : Value)
    (r1 : PathRd W (PN W (fbN N outV openV (x :: r))) pv p.path) (r2 : VRd W (PN W (fbN N outV openV (x :: r))) kv ks) (r3 : VRd W (PN W (fbN N outV openV (x :: r))) ov os)
    (qs : List PV) (e : qs.map (·.1) = x.fr.kids) (hq : ∀ q ∈ qs, PathRd W (PN W (fbN N outV openV (x :: r))) q.2.1 q.1.pc.path ∧ VRd W (PN W (fbN N outV openV (x :: r))) q.2.2.1 q.1.kids ∧ VRd W (PN W (fbN N outV openV (x :: r))) q.2.2.2 q.1.other)
    (hat : x.kv.ownBlock = some g ∨ g = W.heap.size + 1)
    (hs : Stored8 W w1 w' B x.b g n cap 6 98 x.kv (.slice (some ⟨g, 0, none⟩) (n + 1) cap) (frCells x) (qs.flatMap qcell) (ptc p pv kv ov)) :
    (∃ x', x'.fr = ⟨x.fr.p, x.fr.kids ++ [.mk p ks os], x.fr.other, x.fr.flag⟩ ∧ NI w' B N outV openV (x' :: r) out) ∧ Below B W w' := by
  subst hn
  obtain ⟨s1, s2, s3, s4, s5, s6⟩ := hs
  exact ⟨⟨_, rfl, NI.put_kids h p ks os pv kv ov r1 r2 r3 qs e hq g cap s1 (fun k hk hn hr => s2 k hk hn hr) hB (hat.imp id (fun h => by omega)) s3 _ rfl s4 s5⟩, s6⟩
set_option maxHeartbeats 8000000 in
set_option maxRecDepth 100000 in
theorem put_kids_any (w : World) (B N : Nat) (outV openV : Value) (x : FrM) (r : List FrM) (out : List Part) (h : NI w B N outV openV (x :: r) out) (hfl : x.fr.flag = false) (hB : B ≤ w.heap.size) (hl : x.fr.kids.length ≤ 1000000) (p : Pc) (ks os : List Part) (Av Ak Ao : Option Addr) (cv ck co : Nat)
    (r1 : PathRd w (PN w (fbN N outV openV (x :: r))) (.slice Av p.path.length cv) p.path) (r2 : VRd w (PN w (fbN N outV openV (x :: r))) (.slice Ak ks.length ck) ks) (r3 : VRd w (PN w (fbN N outV openV (x :: r))) (.slice Ao os.length co) os) :
    Calls Tryd.prog 61 #[.pointer (some ⟨N, 0, none⟩), .agg #[.int .i64 p.kind, .int .i64 p.pos, .string (bs p.text), .slice Av p.path.length cv, .string (bs p.name), .int .i64 p.place, .slice Ak ks.length ck, .slice Ao os.length co]] w fun e w' => (∃ v, e = .returned v) ∧ (∃ x', x'.fr = ⟨x.fr.p, x.fr.kids ++ [.mk p ks os], x.fr.other, x.fr.flag⟩ ∧ NI w' B N outV openV (x' :: r) out) ∧ Below B w w' := by
  have H60 : Hid (∀ W, Below w.heap.size w W → Calls Tryd.prog 60 #[.pointer (some ⟨N, 0, none⟩)] W fun e w' => e = .returned (.pointer (some ⟨x.b, 0, none⟩)) ∧ ∃ q, w' = W.drewN q) :=
    fun W hb => last_any W B N outV openV (x :: r) out (h.keep hb)
  have hfx := h.fr x (List.mem_cons_self ..)
  obtain ⟨A, c, hav, hc⟩ := hfx.2.2.1.form
  have HNI := Lib.hid h
  have HAV := Lib.hid hav
  have hNl : x.b < w.heap.size := blk_lt hfx.1
  have HFL := Lib.hid hfl
  clear hfx hav hfl
  have HR1 := Lib.hid r1; have HR2 := Lib.hid r2; have HR3 := Lib.hid r3
  clear h r1 r2 r3
  obtain ⟨i0, hi, hz0, hz1, hz2⟩ := info_parts info74
  obtain ⟨n, hn⟩ : ∃ n, n = x.fr.kids.length := ⟨_, rfl⟩
  rw [← hn] at hc hl HAV
  have Hn := Lib.hid hn; clear hn
  go_enter Tryd.func61, Tryd.ntmps61
  go_upto_region 5 with (go_at_call 60; refine (H60.out _ ((Below.refl _ w).alloc (Nat.le_refl _) _)).mono ?_; rintro e w1 ⟨rfl, q, rfl⟩)
  have hb0 : Below w.heap.size w ((w.alloc (.cells #[.int .i64 p.kind, .int .i64 p.pos, .string (bs p.text), .slice Av p.path.length cv, .string (bs p.name), .int .i64 p.place, .slice Ak ks.length ck, .slice Ao os.length co] 74)).drewN q) := ((Below.refl _ w).alloc (Nat.le_refl _) _).trans ⟨rfl, rfl, rfl, Nat.le_refl _, fun _ _ => rfl⟩
  have hbx : Blk ((w.alloc (.cells #[.int .i64 p.kind, .int .i64 p.pos, .string (bs p.text), .slice Av p.path.length cv, .string (bs p.name), .int .i64 p.place, .slice Ak ks.length ck, .slice Ao os.length co] 74)).drewN q) w.heap.size 74 [.int .i64 p.kind, .int .i64 p.pos, .string (bs p.text), .slice Av p.path.length cv, .string (bs p.name), .int .i64 p.place, .slice Ak ks.length ck, .slice Ao os.length co] := blk_new w 74 _
  obtain ⟨W, hW⟩ : ∃ W, W = (w.alloc (.cells #[.int .i64 p.kind, .int .i64 p.pos, .string (bs p.text), .slice Av p.path.length cv, .string (bs p.name), .int .i64 p.place, .slice Ak ks.length ck, .slice Ao os.length co] 74)).drewN q := ⟨_, rfl⟩
  rw [← hW] at hb0 hbx ⊢
  clear hW
  have hNIW := HNI.out.keep hb0
  have hNl2 : x.b < W.heap.size := Nat.lt_of_lt_of_le hNl hb0.size
  have hBW : B ≤ W.heap.size := Nat.le_trans hB hb0.size
  obtain ⟨X, hX⟩ : ∃ X, X = w.heap.size := ⟨_, rfl⟩
  rw [← hX] at hbx ⊢
  have hXl : X < W.heap.size := blk_lt hbx
  have hXN : X ≠ x.b := by omega
  have e0 := blk_cell hbx 0; have e1 := blk_cell hbx 1; have e2 := blk_cell hbx 2; have e3 := blk_cell hbx 3; have e4 := blk_cell hbx 4; have e5 := blk_cell hbx 5; have e6 := blk_cell hbx 6; have e7 := blk_cell hbx 7
  have hfw := hNIW.fr x (List.mem_cons_self ..)
  have n0 := blk_cell hfw.1 6
  have n8 := blk_cell hfw.1 8
  have m0 := blk_frozen hfw.1 6
  simp only [List.getElem?_cons_zero, List.getElem?_cons_succ, frCells] at e0 e1 e2 e3 e4 e5 e6 e7 n0 n8
  rw [HAV.out] at n0
  rw [HFL.out] at n8
  obtain ⟨qs, hq1, hq2, hq3⟩ := hfw.2.2.1
  rw [← Hn.out, HAV.out] at hq2
  have HB0 := Lib.hid hb0; have HQ1 := Lib.hid hq1; have HQ2 := Lib.hid hq2; have HQ3 := Lib.hid hq3; have HNIW := Lib.hid hNIW; have HX := Lib.hid hX
  have hxl : (qs.flatMap qcell).length = n * 8 := by rw [qcells_len, Hn.out, ← HQ1.out, List.length_map]
  have HXL := Lib.hid hxl
  have hNO : ∀ k, (Value.slice A n c).ownBlock = some k → k ≠ x.b := by
    intro k hk e
    have hnd := HNIW.out.nodup
    rw [← HAV.out] at hk
    have hk := mem_ownL.2 hk
    simp only [fbN, FrM.fb, List.flatMap_cons, List.cons_append, List.nodup_cons, List.nodup_append, List.mem_append, List.mem_cons] at hnd
    grind
  have HNB := Lib.hid hfw.1; have HNO := Lib.hid hNO
  have hxB : B ≤ x.b := (HNIW.out.lt x.b (by simp [fbN, FrM.fb])).1
  have HXB := Lib.hid hxB
  clear hb0 hbx hq1 hq2 hq3 hNIW hX hxl hNO hfw hxB
  go_upto_region 2 with fail
  have g1 : IntKind.i64.wrap (n : Int) = (n : Int) := IntWalk.i64_in _ (by omega)
  have g4 : (0 : Int) ≤ (n : Int) := by omega
  have g5 : (n : Int) < (n : Int) + 1 := by omega
  have g6 : ((n : Int)).toNat = n := by omega
  go_region_law ((refine step_append_lies _ (by rfl) _ _ 37 (by rfl) B 74 i0 (.agg #[.int .i64 0, .int .i64 0, .string ⟨#[]⟩, .slice none 0 0, .string ⟨#[]⟩, .int .i64 0, .slice none 0 0, .slice none 0 0]) 8 128 Tryd.underlying37 hi hz0 hz1 hz2 rfl (by decide) (.slice A n c) n _ (by rfl) (own_drew (HQ2.out.alloc _)) ⟨W.heap.size, 0, none⟩ 1 1 zero8 (by rfl) (by rfl) (World.news_of_block (heap_alloc_new W _)) zero8_one (by decide) (by unfold maxLen; omega) (by omega) (by simp; omega) (W.heap.size + 1) (by simp) ?_; intro g cap w1 hown hgrow hat hlt; have hN1 := blk_at HNB.out (grew_keep hgrow x.b hNl2 (fun e => HNO.out x.b e rfl)); have hgN : g ≠ x.b := (by rcases hat with h | h; exact HNO.out g h; omega); have q0 := blk_cell hN1 6; have qf0 := blk_frozen hN1 6; simp only [List.getElem?_cons_zero, List.getElem?_cons_succ, frCells] at q0; rw [HAV.out] at q0; have z0 := (row_tail hown HXL.out 0 (by decide)).1; have y0 := (row_tail hown HXL.out 0 (by decide)).2; have z1 := (row_tail hown HXL.out 1 (by decide)).1; have y1 := (row_tail hown HXL.out 1 (by decide)).2; have z2 := (row_tail hown HXL.out 2 (by decide)).1; have y2 := (row_tail hown HXL.out 2 (by decide)).2; have z3 := (row_tail hown HXL.out 3 (by decide)).1; have y3 := (row_tail hown HXL.out 3 (by decide)).2; have z4 := (row_tail hown HXL.out 4 (by decide)).1; have y4 := (row_tail hown HXL.out 4 (by decide)).2; have z5 := (row_tail hown HXL.out 5 (by decide)).1; have y5 := (row_tail hown HXL.out 5 (by decide)).2; have z6 := (row_tail hown HXL.out 6 (by decide)).1; have y6 := (row_tail hown HXL.out 6 (by decide)).2; have z7 := (row_tail hown HXL.out 7 (by decide)).1; have y7 := (row_tail hown HXL.out 7 (by decide)).2; simp only [zero8, List.getElem?_cons_zero, List.getElem?_cons_succ, Nat.add_zero] at z0 z1 z2 z3 z4 z5 z6 z7; simp only [Nat.add_zero] at y0; have HO1 := Lib.hid hown; have HG1 := Lib.hid hgrow; have HA1 := Lib.hid hat; clear hown hgrow hat))
  all_goals
    have hv : ∀ k, (Value.slice A n c).ownBlock = some k → B ≤ k ∧ k ≠ x.b := fun k hk => ⟨(HQ2.out.lt k hk).1, HNO.out k hk⟩
    have hfin := fun w' hS => put_kids_fin (w1 := w1) (w' := w') (g := g) (cap := cap) HNIW.out Hn.out hBW p ks os _ _ _ (HR1.out.frame (fun b hb => HB0.out.block b hb.1) (fun b hb => PN.more HB0.out hb)) (HR2.out.frame (fun b hb => HB0.out.block b hb.1) (fun b hb => PN.more HB0.out hb)) (HR3.out.frame (fun b hb => HB0.out.block b hb.1) (fun b hb => PN.more HB0.out hb)) qs HQ1.out HQ3.out (by rw [HAV.out]; exact HA1.out) (by rw [HAV.out]; exact hS)
    have hSA := hfin _ (stored8_a (o := 6) (u := .slice (some ⟨g, 0, none⟩) (n + 1) cap) HO1.out HXL.out HG1.out HA1.out hlt hv HNB.out HXB.out hBW (.int .i64 p.kind) (.int .i64 p.pos) (.string (bs p.text)) (.slice Av p.path.length cv) (.string (bs p.name)) (.int .i64 p.place) (.slice Ak ks.length ck) (.slice Ao os.length co))
    have hSB := hfin _ (stored8_b (o := 6) (u := .slice (some ⟨g, 0, none⟩) (n + 1) cap) HO1.out HXL.out HG1.out HA1.out hlt hv HNB.out HXB.out hBW (.int .i64 p.kind) (.int .i64 p.pos) (.string (bs p.text)) (.slice Av p.path.length cv) (.string (bs p.name)) (.int .i64 p.place) (.slice Ak ks.length ck) (.slice Ao os.length co))
    have HSA := Lib.hid hSA; have HSB := Lib.hid hSB
    clear hSA hSB hfin
    go_returns
    refine ⟨⟨_, rfl⟩, ?_, ?_⟩
    · first
        | with_reducible exact HSA.out.1
        | with_reducible exact HSB.out.1
    · first
        | with_reducible exact (HB0.out.mono hB).trans HSA.out.2
        | with_reducible exact (HB0.out.mono hB).trans HSB.out.2
end Go.Proofs.YthilkpjdfjjikaaDoor
end
section
/-
  A part put among a block's other parts, walked.
-/
namespace Go.Proofs.YthilkpjdfjjikaaDoor
open Go.RowKit
attribute [local go_sem ↓] Go.wp_at_zero Go.wp_at_succ

theorem put_other_fin {W w1 w' : World} {B N g n cap : Nat} {outV openV : Value} {x : FrM} {r : List FrM} {out : List Part} (h : NI W B N outV openV (x :: r) out) (hn : n = x.fr.other.length) (hB : B ≤ W.heap.size) (p : Pc) (ks os : List Part) (pv kv ov : Value)
    (r1 : PathRd W (PN W (fbN N outV openV (x :: r))) pv p.path) (r2 : VRd W (PN W (fbN N outV openV (x :: r))) kv ks) (r3 : VRd W (PN W (fbN N outV openV (x :: r))) ov os)
    (qs : List PV) (e : qs.map (·.1) = x.fr.other) (hq : ∀ q ∈ qs, PathRd W (PN W (fbN N outV openV (x :: r))) q.2.1 q.1.pc.path ∧ VRd W (PN W (fbN N outV openV (x :: r))) q.2.2.1 q.1.kids ∧ VRd W (PN W (fbN N outV openV (x :: r))) q.2.2.2 q.1.other)
    (hat : x.ov.ownBlock = some g ∨ g = W.heap.size + 1)
    (hs : Stored8 W w1 w' B x.b g n cap 7 98 x.ov (.slice (some ⟨g, 0, none⟩) (n + 1) cap) (frCells x) (qs.flatMap qcell) (ptc p pv kv ov)) :
    (∃ x', x'.fr = ⟨x.fr.p, x.fr.kids, x.fr.other ++ [.mk p ks os], x.fr.flag⟩ ∧ NI w' B N outV openV (x' :: r) out) ∧ Below B W w' := by
  subst hn
  obtain ⟨s1, s2, s3, s4, s5, s6⟩ := hs
  exact ⟨⟨_, rfl, NI.put_other h p ks os pv kv ov r1 r2 r3 qs e hq g cap s1 (fun k hk hn hr => s2 k hk hn hr) hB (hat.imp id (fun h => by omega)) s3 _ rfl s4 s5⟩, s6⟩
set_option maxHeartbeats 8000000 in
set_option maxRecDepth 100000 in
theorem put_other_any (w : World) (B N : Nat) (outV openV : Value) (x : FrM) (r : List FrM) (out : List Part) (h : NI w B N outV openV (x :: r) out) (hfl : x.fr.flag = true) (hB : B ≤ w.heap.size) (hl : x.fr.other.length ≤ 1000000) (p : Pc) (ks os : List Part) (Av Ak Ao : Option Addr) (cv ck co : Nat)
    (r1 : PathRd w (PN w (fbN N outV openV (x :: r))) (.slice Av p.path.length cv) p.path) (r2 : VRd w (PN w (fbN N outV openV (x :: r))) (.slice Ak ks.length ck) ks) (r3 : VRd w (PN w (fbN N outV openV (x :: r))) (.slice Ao os.length co) os) :
    Calls Tryd.prog 61 #[.pointer (some ⟨N, 0, none⟩), .agg #[.int .i64 p.kind, .int .i64 p.pos, .string (bs p.text), .slice Av p.path.length cv, .string (bs p.name), .int .i64 p.place, .slice Ak ks.length ck, .slice Ao os.length co]] w fun e w' => (∃ v, e = .returned v) ∧ (∃ x', x'.fr = ⟨x.fr.p, x.fr.kids, x.fr.other ++ [.mk p ks os], x.fr.flag⟩ ∧ NI w' B N outV openV (x' :: r) out) ∧ Below B w w' := by
  have H60 : Hid (∀ W, Below w.heap.size w W → Calls Tryd.prog 60 #[.pointer (some ⟨N, 0, none⟩)] W fun e w' => e = .returned (.pointer (some ⟨x.b, 0, none⟩)) ∧ ∃ q, w' = W.drewN q) :=
    fun W hb => last_any W B N outV openV (x :: r) out (h.keep hb)
  have hfx := h.fr x (List.mem_cons_self ..)
  obtain ⟨A, c, hav, hc⟩ := hfx.2.2.2.form
  have HNI := Lib.hid h
  have HAV := Lib.hid hav
  have hNl : x.b < w.heap.size := blk_lt hfx.1
  have HFL := Lib.hid hfl
  clear hfx hav hfl
  have HR1 := Lib.hid r1; have HR2 := Lib.hid r2; have HR3 := Lib.hid r3
  clear h r1 r2 r3
  obtain ⟨i0, hi, hz0, hz1, hz2⟩ := info_parts info74
  obtain ⟨n, hn⟩ : ∃ n, n = x.fr.other.length := ⟨_, rfl⟩
  rw [← hn] at hc hl HAV
  have Hn := Lib.hid hn; clear hn
  go_enter Tryd.func61, Tryd.ntmps61
  go_upto_region 5 with (go_at_call 60; refine (H60.out _ ((Below.refl _ w).alloc (Nat.le_refl _) _)).mono ?_; rintro e w1 ⟨rfl, q, rfl⟩)
  have hb0 : Below w.heap.size w ((w.alloc (.cells #[.int .i64 p.kind, .int .i64 p.pos, .string (bs p.text), .slice Av p.path.length cv, .string (bs p.name), .int .i64 p.place, .slice Ak ks.length ck, .slice Ao os.length co] 74)).drewN q) := ((Below.refl _ w).alloc (Nat.le_refl _) _).trans ⟨rfl, rfl, rfl, Nat.le_refl _, fun _ _ => rfl⟩
  have hbx : Blk ((w.alloc (.cells #[.int .i64 p.kind, .int .i64 p.pos, .string (bs p.text), .slice Av p.path.length cv, .string (bs p.name), .int .i64 p.place, .slice Ak ks.length ck, .slice Ao os.length co] 74)).drewN q) w.heap.size 74 [.int .i64 p.kind, .int .i64 p.pos, .string (bs p.text), .slice Av p.path.length cv, .string (bs p.name), .int .i64 p.place, .slice Ak ks.length ck, .slice Ao os.length co] := blk_new w 74 _
  obtain ⟨W, hW⟩ : ∃ W, W = (w.alloc (.cells #[.int .i64 p.kind, .int .i64 p.pos, .string (bs p.text), .slice Av p.path.length cv, .string (bs p.name), .int .i64 p.place, .slice Ak ks.length ck, .slice Ao os.length co] 74)).drewN q := ⟨_, rfl⟩
  rw [← hW] at hb0 hbx ⊢
  clear hW
  have hNIW := HNI.out.keep hb0
  have hNl2 : x.b < W.heap.size := Nat.lt_of_lt_of_le hNl hb0.size
  have hBW : B ≤ W.heap.size := Nat.le_trans hB hb0.size
  obtain ⟨X, hX⟩ : ∃ X, X = w.heap.size := ⟨_, rfl⟩
  rw [← hX] at hbx ⊢
  have hXl : X < W.heap.size := blk_lt hbx
  have hXN : X ≠ x.b := by omega
  have e0 := blk_cell hbx 0; have e1 := blk_cell hbx 1; have e2 := blk_cell hbx 2; have e3 := blk_cell hbx 3; have e4 := blk_cell hbx 4; have e5 := blk_cell hbx 5; have e6 := blk_cell hbx 6; have e7 := blk_cell hbx 7
  have hfw := hNIW.fr x (List.mem_cons_self ..)
  have n0 := blk_cell hfw.1 7
  have n8 := blk_cell hfw.1 8
  have m0 := blk_frozen hfw.1 7
  simp only [List.getElem?_cons_zero, List.getElem?_cons_succ, frCells] at e0 e1 e2 e3 e4 e5 e6 e7 n0 n8
  rw [HAV.out] at n0
  rw [HFL.out] at n8
  obtain ⟨qs, hq1, hq2, hq3⟩ := hfw.2.2.2
  rw [← Hn.out, HAV.out] at hq2
  have HB0 := Lib.hid hb0; have HQ1 := Lib.hid hq1; have HQ2 := Lib.hid hq2; have HQ3 := Lib.hid hq3; have HNIW := Lib.hid hNIW; have HX := Lib.hid hX
  have hxl : (qs.flatMap qcell).length = n * 8 := by rw [qcells_len, Hn.out, ← HQ1.out, List.length_map]
  have HXL := Lib.hid hxl
  have hNO : ∀ k, (Value.slice A n c).ownBlock = some k → k ≠ x.b := by
    intro k hk e
    have hnd := HNIW.out.nodup
    rw [← HAV.out] at hk
    have hk := mem_ownL.2 hk
    simp only [fbN, FrM.fb, List.flatMap_cons, List.cons_append, List.nodup_cons, List.nodup_append, List.mem_append, List.mem_cons] at hnd
    grind
  have HNB := Lib.hid hfw.1; have HNO := Lib.hid hNO
  have hxB : B ≤ x.b := (HNIW.out.lt x.b (by simp [fbN, FrM.fb])).1
  have HXB := Lib.hid hxB
  clear hb0 hbx hq1 hq2 hq3 hNIW hX hxl hNO hfw hxB
  go_upto_region 6 with fail
  have g1 : IntKind.i64.wrap (n : Int) = (n : Int) := IntWalk.i64_in _ (by omega)
  have g4 : (0 : Int) ≤ (n : Int) := by omega
  have g5 : (n : Int) < (n : Int) + 1 := by omega
  have g6 : ((n : Int)).toNat = n := by omega
  go_region_law ((refine step_append_lies _ (by rfl) _ _ 37 (by rfl) B 74 i0 (.agg #[.int .i64 0, .int .i64 0, .string ⟨#[]⟩, .slice none 0 0, .string ⟨#[]⟩, .int .i64 0, .slice none 0 0, .slice none 0 0]) 8 128 Tryd.underlying37 hi hz0 hz1 hz2 rfl (by decide) (.slice A n c) n _ (by rfl) (own_drew (HQ2.out.alloc _)) ⟨W.heap.size, 0, none⟩ 1 1 zero8 (by rfl) (by rfl) (World.news_of_block (heap_alloc_new W _)) zero8_one (by decide) (by unfold maxLen; omega) (by omega) (by simp; omega) (W.heap.size + 1) (by simp) ?_; intro g cap w1 hown hgrow hat hlt; have hN1 := blk_at HNB.out (grew_keep hgrow x.b hNl2 (fun e => HNO.out x.b e rfl)); have hgN : g ≠ x.b := (by rcases hat with h | h; exact HNO.out g h; omega); have q0 := blk_cell hN1 7; have qf0 := blk_frozen hN1 7; simp only [List.getElem?_cons_zero, List.getElem?_cons_succ, frCells] at q0; rw [HAV.out] at q0; have z0 := (row_tail hown HXL.out 0 (by decide)).1; have y0 := (row_tail hown HXL.out 0 (by decide)).2; have z1 := (row_tail hown HXL.out 1 (by decide)).1; have y1 := (row_tail hown HXL.out 1 (by decide)).2; have z2 := (row_tail hown HXL.out 2 (by decide)).1; have y2 := (row_tail hown HXL.out 2 (by decide)).2; have z3 := (row_tail hown HXL.out 3 (by decide)).1; have y3 := (row_tail hown HXL.out 3 (by decide)).2; have z4 := (row_tail hown HXL.out 4 (by decide)).1; have y4 := (row_tail hown HXL.out 4 (by decide)).2; have z5 := (row_tail hown HXL.out 5 (by decide)).1; have y5 := (row_tail hown HXL.out 5 (by decide)).2; have z6 := (row_tail hown HXL.out 6 (by decide)).1; have y6 := (row_tail hown HXL.out 6 (by decide)).2; have z7 := (row_tail hown HXL.out 7 (by decide)).1; have y7 := (row_tail hown HXL.out 7 (by decide)).2; simp only [zero8, List.getElem?_cons_zero, List.getElem?_cons_succ, Nat.add_zero] at z0 z1 z2 z3 z4 z5 z6 z7; simp only [Nat.add_zero] at y0; have HO1 := Lib.hid hown; have HG1 := Lib.hid hgrow; have HA1 := Lib.hid hat; clear hown hgrow hat))
  all_goals
    have hv : ∀ k, (Value.slice A n c).ownBlock = some k → B ≤ k ∧ k ≠ x.b := fun k hk => ⟨(HQ2.out.lt k hk).1, HNO.out k hk⟩
    have hfin := fun w' hS => put_other_fin (w1 := w1) (w' := w') (g := g) (cap := cap) HNIW.out Hn.out hBW p ks os _ _ _ (HR1.out.frame (fun b hb => HB0.out.block b hb.1) (fun b hb => PN.more HB0.out hb)) (HR2.out.frame (fun b hb => HB0.out.block b hb.1) (fun b hb => PN.more HB0.out hb)) (HR3.out.frame (fun b hb => HB0.out.block b hb.1) (fun b hb => PN.more HB0.out hb)) qs HQ1.out HQ3.out (by rw [HAV.out]; exact HA1.out) (by rw [HAV.out]; exact hS)
    have hSA := hfin _ (stored8_a (o := 7) (u := .slice (some ⟨g, 0, none⟩) (n + 1) cap) HO1.out HXL.out HG1.out HA1.out hlt hv HNB.out HXB.out hBW (.int .i64 p.kind) (.int .i64 p.pos) (.string (bs p.text)) (.slice Av p.path.length cv) (.string (bs p.name)) (.int .i64 p.place) (.slice Ak ks.length ck) (.slice Ao os.length co))
    have hSB := hfin _ (stored8_b (o := 7) (u := .slice (some ⟨g, 0, none⟩) (n + 1) cap) HO1.out HXL.out HG1.out HA1.out hlt hv HNB.out HXB.out hBW (.int .i64 p.kind) (.int .i64 p.pos) (.string (bs p.text)) (.slice Av p.path.length cv) (.string (bs p.name)) (.int .i64 p.place) (.slice Ak ks.length ck) (.slice Ao os.length co))
    have HSA := Lib.hid hSA; have HSB := Lib.hid hSB
    clear hSA hSB hfin
    go_returns
    refine ⟨⟨_, rfl⟩, ?_, ?_⟩
    · first
        | with_reducible exact HSA.out.1
        | with_reducible exact HSB.out.1
    · first
        | with_reducible exact (HB0.out.mono hB).trans HSA.out.2
        | with_reducible exact (HB0.out.mono hB).trans HSB.out.2
end Go.Proofs.YthilkpjdfjjikaaDoor
end
section
/-
  A piece taken: the nester's step (blocks opened; others), walked.
-/
namespace Go.Proofs.YthilkpjdfjjikaaDoor
open Go.RowKit
attribute [local go_sem ↓] Go.wp_at_zero Go.wp_at_succ

def stOf (out : List Part) (fs : List FrM) : NSt := ⟨out, fs.map (·.fr)⟩
/-- The nester is in memory. -/
def NIs (w : World) (B N : Nat) (s : NSt) : Prop := ∃ outV openV fs, NI w B N outV openV fs s.out ∧ fs.map (·.fr) = s.st
theorem put_any (w : World) (B N : Nat) (outV openV : Value) (fs : List FrM) (out : List Part) (h : NI w B N outV openV fs out) (hB : B ≤ w.heap.size) (hl : (stOf out fs).cur.length ≤ 1000000) (p : Pc) (ks os : List Part) (pv kv ov : Value)
    (r1 : PathRd w (PN w (fbN N outV openV fs)) pv p.path) (r2 : VRd w (PN w (fbN N outV openV fs)) kv ks) (r3 : VRd w (PN w (fbN N outV openV fs)) ov os) :
    Calls Tryd.prog 61 #[.pointer (some ⟨N, 0, none⟩), .agg #[.int .i64 p.kind, .int .i64 p.pos, .string (bs p.text), pv, .string (bs p.name), .int .i64 p.place, kv, ov]] w fun e w' => (∃ v, e = .returned v) ∧ NIs w' B N (putS (stOf out fs) (.mk p ks os)) ∧ Below B w w' := by
  obtain ⟨Av, cv, rfl, _⟩ : ∃ A c, pv = .slice A p.path.length c ∧ p.path.length ≤ c := by obtain ⟨A, c, h1, h2, _⟩ := r1; exact ⟨A, c, h1, h2⟩
  obtain ⟨Ak, ck, rfl, _⟩ : ∃ A c, kv = .slice A ks.length c ∧ ks.length ≤ c := by obtain ⟨A, c, h1, h2, _⟩ := r2; exact ⟨A, c, h1, h2⟩
  obtain ⟨Ao, co, rfl, _⟩ : ∃ A c, ov = .slice A os.length c ∧ os.length ≤ c := by obtain ⟨A, c, h1, h2, _⟩ := r3; exact ⟨A, c, h1, h2⟩
  cases fs with
  | nil =>
    refine (put_out_any w B N outV openV out h hB hl p ks os Av Ak Ao cv ck co r1 r2 r3).mono ?_
    rintro e w' ⟨hv, ⟨outV', hN⟩, hb⟩
    exact ⟨hv, ⟨outV', openV, [], hN, rfl⟩, hb⟩
  | cons x r =>
    cases hf : x.fr.flag with
    | false =>
      have hc : (stOf out (x :: r)).cur = x.fr.kids := by unfold stOf NSt.cur; simp [hf]
      rw [hc] at hl
      refine (put_kids_any w B N outV openV x r out h hf hB hl p ks os Av Ak Ao cv ck co r1 r2 r3).mono ?_
      rintro e w' ⟨hv, ⟨x', hx', hN⟩, hb⟩
      refine ⟨hv, ⟨outV, openV, x' :: r, ?_, ?_⟩, hb⟩
      · rw [show (putS (stOf out (x :: r)) (.mk p ks os)).out = out from by unfold putS NSt.set stOf; simp [hf]]; exact hN
      · unfold putS; rw [hc]; unfold NSt.set stOf; simp [hf, hx']
    | true =>
      have hc : (stOf out (x :: r)).cur = x.fr.other := by unfold stOf NSt.cur; simp [hf]
      rw [hc] at hl
      refine (put_other_any w B N outV openV x r out h hf hB hl p ks os Av Ak Ao cv ck co r1 r2 r3).mono ?_
      rintro e w' ⟨hv, ⟨x', hx', hN⟩, hb⟩
      refine ⟨hv, ⟨outV, openV, x' :: r, ?_, ?_⟩, hb⟩
      · rw [show (putS (stOf out (x :: r)) (.mk p ks os)).out = out from by unfold putS NSt.set stOf; simp [hf]]; exact hN
      · unfold putS; rw [hc]; unfold NSt.set stOf; simp [hf, hx']
def TakePost (w : World) (B N : Nat) (R : Option NSt) (e : Ending) (w' : World) : Prop :=
  match R with
  | none => e = .returned (.bool false) ∧ Below w.heap.size w w'
  | some s => e = .returned (.bool true) ∧ NIs w' B N s ∧ Below B w w'
theorem drewN_below (w : World) (q : Nat) : Below w.heap.size w (w.drewN q) := ⟨rfl, rfl, rfl, Nat.le_refl _, fun _ _ => rfl⟩
set_option maxHeartbeats 8000000 in
set_option maxRecDepth 100000 in
/-- A piece that opens nothing and closes nothing. -/
theorem take_def (w : World) (B N : Nat) (outV openV : Value) (fs : List FrM) (out : List Part) (h : NI w B N outV openV fs out) (hB : B ≤ w.heap.size) (hl : (stOf out fs).cur.length ≤ 1000000) (p : Pc) (Av : Option Addr) (cv : Nat)
    (r1 : PathRd w (PN w (fbN N outV openV fs)) (.slice Av p.path.length cv) p.path) (hk : p.kind ≠ 3 ∧ p.kind ≠ 4 ∧ p.kind ≠ 5 ∧ p.kind ≠ 6) :
    Calls Tryd.prog 36 #[.pointer (some ⟨N, 0, none⟩), .agg #[.int .i64 p.kind, .int .i64 p.pos, .string (bs p.text), .slice Av p.path.length cv, .string (bs p.name), .int .i64 p.place]] w (TakePost w B N (takeS (stOf out fs) p)) := by
  have hR : takeS (stOf out fs) p = some (putS (stOf out fs) (.mk p [] [])) := by
    unfold takeS
    rw [if_neg (by intro h; have := blockK_not h; omega), if_neg hk.2.2.1, if_neg hk.2.2.2]
  rw [hR]
  have H60 : Hid (∀ W, Below w.heap.size w W → Calls Tryd.prog 60 #[.pointer (some ⟨N, 0, none⟩)] W fun e w' => e = .returned (lastP fs) ∧ ∃ q, w' = W.drewN q) :=
    fun W hb => last_any W B N outV openV fs out (h.keep hb)
  have H61 : Hid (∀ W, Below w.heap.size w W → Calls Tryd.prog 61 #[.pointer (some ⟨N, 0, none⟩), .agg #[.int .i64 p.kind, .int .i64 p.pos, .string (bs p.text), .slice Av p.path.length cv, .string (bs p.name), .int .i64 p.place, .slice none 0 0, .slice none 0 0]] W fun e w' => (∃ v, e = .returned v) ∧ NIs w' B N (putS (stOf out fs) (.mk p [] [])) ∧ Below B W w') :=
    fun W hb => put_any W B N outV openV fs out (h.keep hb) (Nat.le_trans hB hb.size) hl p [] [] _ _ _ (r1.frame (fun b hb' => hb.block b hb'.1) (fun b hb' => PN.more hb hb')) VRd.nil VRd.nil
  obtain ⟨h3, h4, h5, h6⟩ := hk
  have k3 : (p.kind == 3) = false := by rw [beq_eq_false_iff_ne]; exact h3
  have k4 : (p.kind == 4) = false := by rw [beq_eq_false_iff_ne]; exact h4
  have k5 : (p.kind == 5) = false := by rw [beq_eq_false_iff_ne]; exact h5
  have k6 : (p.kind == 6) = false := by rw [beq_eq_false_iff_ne]; exact h6
  have hb1 : Below w.heap.size w (w.alloc (.cells #[.int .i64 p.kind, .int .i64 p.pos, .string (bs p.text), .slice Av p.path.length cv, .string (bs p.name), .int .i64 p.place] 35)) := (Below.refl _ w).alloc (Nat.le_refl _) _
  have HB1 := Lib.hid hb1
  clear h r1 hR h3 h4 h5 h6 hb1
  go_enter Tryd.func36, Tryd.ntmps36
  go_wp2_with (first | (go_at_call 60; refine (H60.out _ HB1.out).mono ?_; rintro e w1 ⟨rfl, q, rfl⟩) | (go_at_call 61; refine (H61.out _ (HB1.out.trans ((drewN_below _ _).mono HB1.out.size))).mono ?_; rintro e w2 ⟨⟨v, rfl⟩, hn, hb2⟩))
  go_ret
  exact ⟨rfl, hn, (HB1.out.mono hB).trans (((drewN_below _ _).mono (Nat.le_trans hB HB1.out.size)).trans hb2)⟩
end Go.Proofs.YthilkpjdfjjikaaDoor
end
