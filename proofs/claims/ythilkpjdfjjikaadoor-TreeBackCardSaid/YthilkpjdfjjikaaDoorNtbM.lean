/-
  Texts of this seat, joined: Ntb, Ntc. Each says what it proves, ahead of itself.
-/
import Derived.Test.YthilkpjdfjjikaaDoorNpoM
set_option linter.unusedVariables false
set_option linter.unusedSimpArgs false
section
/-
  A piece taken: a block opened, turned to its else, closed; walked.
-/
namespace Go.Proofs.YthilkpjdfjjikaaDoor
open Go.RowKit
attribute [local go_sem ↓] Go.wp_at_zero Go.wp_at_succ

theorem blk_two' (W : World) (cs ds : Array Value) (t u : TypeId) : ((W.alloc (.cells cs t)).alloc (.cells ds u)).heap[W.heap.size]? = some (.cells cs t (0, 0)) ∧ ((W.alloc (.cells cs t)).alloc (.cells ds u)).heap[W.heap.size + 1]? = some (.cells ds u (0, 0)) := by
  refine ⟨(Below.heap_alloc _ _ _ (by simp)).trans (heap_alloc_new W _), ?_⟩
  have := heap_alloc_new (W.alloc (.cells cs t)) (.cells ds u)
  rw [World.size_alloc] at this
  exact this
theorem grew_keep2 {W w1 : World} {o1 o2 : Obj} {row : Option Nat} (h : ((W.alloc o1).alloc o2).drew.grownBy w1 row) (k : Nat) (hk : k < W.heap.size) (hr : row ≠ some k) : w1.heap[k]? = W.heap[k]? :=
  (h.block k (by show k < ((W.alloc o1).alloc o2).heap.size; simp; omega) (fun e => hr e.symm)).trans ((Below.heap_alloc _ o2 k (by simp; omega)).trans (Below.heap_alloc W o1 k hk))
theorem info20 : (Tryd.prog.info? 20).map (fun i => (i.zero, i.size, i.bytes)) = some (some .nilIface, 1, 16) := by kernel_rfl
/-- What the kinds of a piece are asked for. -/
theorem NI.openLen {w : World} {B N : Nat} {outV openV : Value} {fs : List FrM} {out : List Part} (h : NI w B N outV openV fs out) : ∃ A c, openV = .slice A fs.length c ∧ fs.length ≤ c := by
  obtain ⟨A, c, h1, h2, _⟩ := own_form h.op
  exact ⟨A, c, h1, h2⟩
theorem pushed_fin {W w1 : World} {B N g cap : Nat} {outV openV : Value} {fs : List FrM} {out : List Part} (h : NI W B N outV openV fs out) (hB : B ≤ W.heap.size) (p : Pc) (pv : Value) (r1 : PathRd W (PN W (fbN N outV openV fs)) pv p.path)
    (cs : Array Value) (hcs : cs.toList = [.int .i64 p.kind, .int .i64 p.pos, .string (bs p.text), pv, .string (bs p.name), .int .i64 p.place, .slice none 0 0, .slice none 0 0, .bool false]) (o2 : Obj)
    (hown : w1.ownsRow B 20 1 (.slice (some ⟨g, 0, none⟩) (fs.length + 1) cap) (fs.length + 1) (openCells fs ++ [.iface 95 (.pointer (some ⟨W.heap.size, 0, none⟩))]))
    (hgrow : ((W.alloc (.cells cs 98)).alloc o2).drew.grownBy w1 openV.ownBlock) (hat : openV.ownBlock = some g ∨ g = W.heap.size + 2) (hlt : g < w1.heap.size) (hk : blockK p.kind = true) (hn : fs.length < 12) :
    NIs (w1.setCell ⟨N, 1, none⟩ (.slice (some ⟨g, 0, none⟩) (fs.length + 1) cap)) B N ⟨out, ⟨p, [], [], false⟩ :: fs.map (·.fr)⟩ ∧ Below B W (w1.setCell ⟨N, 1, none⟩ (.slice (some ⟨g, 0, none⟩) (fs.length + 1) cap)) := by
  have hNm : N ∈ fbN N outV openV fs := by simp [fbN]
  have hNB := (h.lt N hNm).1
  have hNl := (h.lt N hNm).2
  have hv : ∀ k, openV.ownBlock = some k → B ≤ k ∧ k < W.heap.size ∧ k ≠ N := by
    intro k hk
    have hm : k ∈ fbN N outV openV fs := by simp only [fbN, List.mem_cons, List.mem_append, mem_ownL]; exact .inr (.inr (.inl hk))
    refine ⟨(h.lt k hm).1, (h.lt k hm).2, fun e => ?_⟩
    have hnd := h.nodup
    simp only [fbN, List.nodup_cons, List.mem_append, mem_ownL] at hnd
    exact hnd.1 (.inr (.inl (e ▸ hk)))
  have hgN : g ≠ N := by rcases hat with h | h; exact (hv g h).2.2; omega
  have hs2 : ((W.alloc (.cells cs 98)).alloc o2).drew.heap.size = W.heap.size + 2 := by show ((W.alloc (.cells cs 98)).alloc o2).heap.size = _; simp
  have hs1 : W.heap.size + 2 ≤ w1.heap.size := by have := hgrow.size; rw [hs2] at this; exact this
  have hk1 : ∀ k, k < W.heap.size → openV.ownBlock ≠ some k → w1.heap[k]? = W.heap[k]? := fun k hk hr =>
    (hgrow.block k (by rw [hs2]; omega) (fun e => hr e.symm)).trans ((Below.heap_alloc _ o2 k (by simp; omega)).trans (Below.heap_alloc W _ k hk))
  have hbb : Blk w1 W.heap.size 98 cs.toList := by
    refine blk_at (blk_alloc (blk_new W 98 cs) o2) (hgrow.block W.heap.size (by rw [hs2]; omega) (fun e => ?_))
    have := (hv _ e.symm).2.1; omega
  have hN1 := blk_set (blk_at h.blk (hk1 N hNl (fun e => (hv N e).2.2 rfl))) 1 (.slice (some ⟨g, 0, none⟩) (fs.length + 1) cap)
  have hsz : (w1.setCell ⟨N, 1, none⟩ (.slice (some ⟨g, 0, none⟩) (fs.length + 1) cap)).heap.size = w1.heap.size := by simp
  refine ⟨⟨_, _, ⟨⟨p, [], [], false⟩, W.heap.size, pv, .slice none 0 0, .slice none 0 0⟩ :: fs, NI.pushed h p pv r1 g cap W.heap.size (by omega) (fun k hk hn hr => (Below.heap_setCell w1 ⟨N, 1, none⟩ _ k hn).trans (hk1 k hk hr)) hB (hat.imp id (fun h => by omega)) (by omega) (Nat.le_refl _) (by omega) (by intro e; rcases hat with h | h; have := (hv g h).2.1; omega; omega) _ rfl hN1 ?_ ?_, rfl⟩, ?_⟩
  · refine blk_at ?_ (Below.heap_setCell w1 ⟨N, 1, none⟩ _ W.heap.size (by show W.heap.size ≠ N; omega))
    rw [hcs] at hbb; exact hbb
  · exact ownsRow_heap hown (fun k e => by cases e; exact Below.heap_setCell w1 ⟨N, 1, none⟩ _ g hgN)
  · have hb1 : Below B W w1 := ((((Below.refl B W).alloc hB _).alloc (by simp; omega) o2).drew).grown hgrow (by rw [hs2]; omega) (fun k hk => (hv k hk).1)
    exact hb1.setCell hNB _
set_option maxHeartbeats 8000000 in
set_option maxRecDepth 100000 in
/-- A block opened. -/
theorem take_blk (w : World) (B N : Nat) (outV openV : Value) (fs : List FrM) (out : List Part) (h : NI w B N outV openV fs out) (hB : B ≤ w.heap.size) (p : Pc) (Av : Option Addr) (cv : Nat)
    (r1 : PathRd w (PN w (fbN N outV openV fs)) (.slice Av p.path.length cv) p.path) (hk : p.kind = 3 ∨ p.kind = 4) (hfl : fs.length ≤ 1000000) :
    Calls Tryd.prog 36 #[.pointer (some ⟨N, 0, none⟩), .agg #[.int .i64 p.kind, .int .i64 p.pos, .string (bs p.text), .slice Av p.path.length cv, .string (bs p.name), .int .i64 p.place]] w (TakePost w B N (takeS (stOf out fs) p)) := by
  have hbk : blockK p.kind = true := by unfold blockK; rcases hk with h | h <;> rw [h] <;> rfl
  have H60 : Hid (∀ W, Below w.heap.size w W → Calls Tryd.prog 60 #[.pointer (some ⟨N, 0, none⟩)] W fun e w' => e = .returned (lastP fs) ∧ ∃ q, w' = W.drewN q) :=
    fun W hb => last_any W B N outV openV fs out (h.keep hb)
  have hb1 : Below w.heap.size w (w.alloc (.cells #[.int .i64 p.kind, .int .i64 p.pos, .string (bs p.text), .slice Av p.path.length cv, .string (bs p.name), .int .i64 p.place] 35)) := (Below.refl _ w).alloc (Nat.le_refl _) _
  have HB1 := Lib.hid hb1
  obtain ⟨A, c, rfl, hc⟩ := h.openLen
  have HNI := Lib.hid h; have HR1 := Lib.hid r1
  obtain ⟨n, hn⟩ : ∃ n, n = fs.length := ⟨_, rfl⟩
  rw [← hn] at hfl hc
  have Hn := Lib.hid hn
  obtain ⟨R, hR⟩ : ∃ R, R = takeS (stOf out fs) p := ⟨_, rfl⟩
  rw [← hR]
  unfold takeS at hR
  rw [if_pos hbk, show (stOf out fs).st.length = n from by unfold stOf; rw [hn, List.length_map]] at hR
  have HR := Lib.hid hR
  have HBK := Lib.hid hbk
  obtain ⟨i0, hi, hz0, hz1, hz2⟩ := info_parts info20
  obtain ⟨kd, hkd⟩ : ∃ kd, kd = p.kind := ⟨_, rfl⟩
  rw [← hkd] at hk HB1 ⊢
  have HKD := Lib.hid hkd
  have hNl : N < w.heap.size := blk_lt h.blk
  clear h r1 hR hbk hb1 hkd hn
  rcases hk with rfl | rfl
  · skip
    go_enter Tryd.func36, Tryd.ntmps36
    go_upto_region 6 with (go_at_call 60; refine (H60.out _ HB1.out).mono ?_; rintro e w1 ⟨rfl, q, rfl⟩)
    have hb2 := HB1.out.trans ((drewN_below _ q).mono HB1.out.size)
    have hbx : Blk ((w.alloc (.cells #[.int .i64 3, .int .i64 p.pos, .string (bs p.text), .slice Av p.path.length cv, .string (bs p.name), .int .i64 p.place] 35)).drewN q) w.heap.size 35 [.int .i64 3, .int .i64 p.pos, .string (bs p.text), .slice Av p.path.length cv, .string (bs p.name), .int .i64 p.place] := blk_new w 35 _
    obtain ⟨W, hW⟩ : ∃ W, W = (w.alloc (.cells #[.int .i64 3, .int .i64 p.pos, .string (bs p.text), .slice Av p.path.length cv, .string (bs p.name), .int .i64 p.place] 35)).drewN q := ⟨_, rfl⟩
    rw [← hW] at hb2 hbx ⊢
    clear hW
    have hNIW := HNI.out.keep hb2
    have hNl2 : N < W.heap.size := Nat.lt_of_lt_of_le hNl hb2.size
    have hBW : B ≤ W.heap.size := Nat.le_trans hB hb2.size
    obtain ⟨X, hX⟩ : ∃ X, X = w.heap.size := ⟨_, rfl⟩
    rw [← hX] at hbx ⊢
    have hXl : X < W.heap.size := blk_lt hbx
    have hXN : X ≠ N := by omega
    have e0 := blk_cell hbx 0; have e1 := blk_cell hbx 1; have e2 := blk_cell hbx 2; have e3 := blk_cell hbx 3; have e4 := blk_cell hbx 4; have e5 := blk_cell hbx 5
    have n1 := blk_cell hNIW.blk 1
    have m1 := blk_frozen hNIW.blk 1
    simp only [List.getElem?_cons_zero, List.getElem?_cons_succ] at e0 e1 e2 e3 e4 e5 n1
    rw [← Hn.out] at n1
    have ho := hNIW.op
    rw [← Hn.out] at ho
    have HO := Lib.hid ho; have HNIW := Lib.hid hNIW; have HB2 := Lib.hid hb2; have HX := Lib.hid hX
    clear hb2 hbx hNIW ho hX
    by_cases h12 : 12 ≤ n
    · have t12 : decide ((n : Int) ≥ 12) = true := by rw [decide_eq_true_eq]; omega
      have hr := HR.out
      rw [if_pos h12] at hr
      have HRf := Lib.hid hr
      clear hr h12
      go_wp2_with fail
      go_ret
      rw [HRf.out]
      exact ⟨rfl, HB2.out⟩
    · have t12 : decide ((n : Int) ≥ 12) = false := by rw [decide_eq_false_iff_not]; omega
      have hr := HR.out
      rw [if_neg h12] at hr
      have HRf := Lib.hid hr
      clear hr
      go_upto_region 8 with fail
      have hNB : N ∈ fbN N outV (.slice A fs.length c) fs := by simp [fbN]
      have hNO : ∀ k, (Value.slice A n c).ownBlock = some k → k ≠ N := by
        intro k hk e
        have hnd := HNIW.out.nodup
        rw [Hn.out] at hk
        simp only [fbN, List.nodup_cons, List.mem_append, mem_ownL] at hnd
        exact hnd.1 (.inr (.inl (e ▸ hk)))
      have HNO := Lib.hid hNO
      clear hNO hNB
      go_region_law ((refine step_append_lies _ (by rfl) _ _ 76 (by rfl) B 20 i0 .nilIface 1 16 Tryd.underlying76 hi hz0 hz1 hz2 rfl (by decide) (.slice A n c) n _ (by rfl) (own_drew ((HO.out.alloc _).alloc _)) ⟨W.heap.size + 1, 0, none⟩ 1 1 [.iface 95 (.pointer (some ⟨W.heap.size, 0, none⟩))] (by rfl) (by rfl) (World.news_of_block (blk_two' W _ _ 98 20).2) (by intro u hu; rw [List.mem_singleton.1 hu]; rfl) (by decide) (by unfold maxLen; omega) (by omega) (by simp; omega) (W.heap.size + 2) (by simp) ?_; intro g cap w1 hown hgrow hat hlt; have hN1 := blk_at HNIW.out.blk (grew_keep2 hgrow N hNl2 (fun e => HNO.out N e rfl)); have q1 := blk_cell hN1 1; have qf1 := blk_frozen hN1 1; simp only [List.getElem?_cons_zero, List.getElem?_cons_succ] at q1; have HO1 := Lib.hid hown; have HG1 := Lib.hid hgrow; have HA1 := Lib.hid hat; clear hown hgrow hat))
      all_goals
        have hn := Hn.out
        subst hn
        have hfin := pushed_fin HNIW.out hBW p _ (HR1.out.frame (fun b hb => HB2.out.block b hb.1) (fun b hb => PN.more HB2.out hb)) _ (by rw [← HKD.out]) _ HO1.out HG1.out HA1.out hlt HBK.out (by omega)
        have HF := Lib.hid hfin
        clear hfin
        go_wp2_with fail
        go_ret
        rw [HRf.out]
        exact ⟨rfl, HF.out.1, (HB2.out.mono hB).trans HF.out.2⟩
  · skip
    go_enter Tryd.func36, Tryd.ntmps36
    go_upto_region 6 with (go_at_call 60; refine (H60.out _ HB1.out).mono ?_; rintro e w1 ⟨rfl, q, rfl⟩)
    have hb2 := HB1.out.trans ((drewN_below _ q).mono HB1.out.size)
    have hbx : Blk ((w.alloc (.cells #[.int .i64 4, .int .i64 p.pos, .string (bs p.text), .slice Av p.path.length cv, .string (bs p.name), .int .i64 p.place] 35)).drewN q) w.heap.size 35 [.int .i64 4, .int .i64 p.pos, .string (bs p.text), .slice Av p.path.length cv, .string (bs p.name), .int .i64 p.place] := blk_new w 35 _
    obtain ⟨W, hW⟩ : ∃ W, W = (w.alloc (.cells #[.int .i64 4, .int .i64 p.pos, .string (bs p.text), .slice Av p.path.length cv, .string (bs p.name), .int .i64 p.place] 35)).drewN q := ⟨_, rfl⟩
    rw [← hW] at hb2 hbx ⊢
    clear hW
    have hNIW := HNI.out.keep hb2
    have hNl2 : N < W.heap.size := Nat.lt_of_lt_of_le hNl hb2.size
    have hBW : B ≤ W.heap.size := Nat.le_trans hB hb2.size
    obtain ⟨X, hX⟩ : ∃ X, X = w.heap.size := ⟨_, rfl⟩
    rw [← hX] at hbx ⊢
    have hXl : X < W.heap.size := blk_lt hbx
    have hXN : X ≠ N := by omega
    have e0 := blk_cell hbx 0; have e1 := blk_cell hbx 1; have e2 := blk_cell hbx 2; have e3 := blk_cell hbx 3; have e4 := blk_cell hbx 4; have e5 := blk_cell hbx 5
    have n1 := blk_cell hNIW.blk 1
    have m1 := blk_frozen hNIW.blk 1
    simp only [List.getElem?_cons_zero, List.getElem?_cons_succ] at e0 e1 e2 e3 e4 e5 n1
    rw [← Hn.out] at n1
    have ho := hNIW.op
    rw [← Hn.out] at ho
    have HO := Lib.hid ho; have HNIW := Lib.hid hNIW; have HB2 := Lib.hid hb2; have HX := Lib.hid hX
    clear hb2 hbx hNIW ho hX
    by_cases h12 : 12 ≤ n
    · have t12 : decide ((n : Int) ≥ 12) = true := by rw [decide_eq_true_eq]; omega
      have hr := HR.out
      rw [if_pos h12] at hr
      have HRf := Lib.hid hr
      clear hr h12
      go_wp2_with fail
      go_ret
      rw [HRf.out]
      exact ⟨rfl, HB2.out⟩
    · have t12 : decide ((n : Int) ≥ 12) = false := by rw [decide_eq_false_iff_not]; omega
      have hr := HR.out
      rw [if_neg h12] at hr
      have HRf := Lib.hid hr
      clear hr
      go_upto_region 8 with fail
      have hNB : N ∈ fbN N outV (.slice A fs.length c) fs := by simp [fbN]
      have hNO : ∀ k, (Value.slice A n c).ownBlock = some k → k ≠ N := by
        intro k hk e
        have hnd := HNIW.out.nodup
        rw [Hn.out] at hk
        simp only [fbN, List.nodup_cons, List.mem_append, mem_ownL] at hnd
        exact hnd.1 (.inr (.inl (e ▸ hk)))
      have HNO := Lib.hid hNO
      clear hNO hNB
      go_region_law ((refine step_append_lies _ (by rfl) _ _ 76 (by rfl) B 20 i0 .nilIface 1 16 Tryd.underlying76 hi hz0 hz1 hz2 rfl (by decide) (.slice A n c) n _ (by rfl) (own_drew ((HO.out.alloc _).alloc _)) ⟨W.heap.size + 1, 0, none⟩ 1 1 [.iface 95 (.pointer (some ⟨W.heap.size, 0, none⟩))] (by rfl) (by rfl) (World.news_of_block (blk_two' W _ _ 98 20).2) (by intro u hu; rw [List.mem_singleton.1 hu]; rfl) (by decide) (by unfold maxLen; omega) (by omega) (by simp; omega) (W.heap.size + 2) (by simp) ?_; intro g cap w1 hown hgrow hat hlt; have hN1 := blk_at HNIW.out.blk (grew_keep2 hgrow N hNl2 (fun e => HNO.out N e rfl)); have q1 := blk_cell hN1 1; have qf1 := blk_frozen hN1 1; simp only [List.getElem?_cons_zero, List.getElem?_cons_succ] at q1; have HO1 := Lib.hid hown; have HG1 := Lib.hid hgrow; have HA1 := Lib.hid hat; clear hown hgrow hat))
      all_goals
        have hn := Hn.out
        subst hn
        have hfin := pushed_fin HNIW.out hBW p _ (HR1.out.frame (fun b hb => HB2.out.block b hb.1) (fun b hb => PN.more HB2.out hb)) _ (by rw [← HKD.out]) _ HO1.out HG1.out HA1.out hlt HBK.out (by omega)
        have HF := Lib.hid hfin
        clear hfin
        go_wp2_with fail
        go_ret
        rw [HRf.out]
        exact ⟨rfl, HF.out.1, (HB2.out.mono hB).trans HF.out.2⟩
end Go.Proofs.YthilkpjdfjjikaaDoor
end
section
/-
  A piece taken: an else, an end; walked. The nester's step, whole.
-/
namespace Go.Proofs.YthilkpjdfjjikaaDoor
open Go.RowKit
attribute [local go_sem ↓] Go.wp_at_zero Go.wp_at_succ

set_option maxHeartbeats 8000000 in
set_option maxRecDepth 100000 in
/-- An else. -/
theorem take_else (w : World) (B N : Nat) (outV openV : Value) (fs : List FrM) (out : List Part) (h : NI w B N outV openV fs out) (hB : B ≤ w.heap.size) (p : Pc) (Av : Option Addr) (cv : Nat) (hk : p.kind = 5) :
    Calls Tryd.prog 36 #[.pointer (some ⟨N, 0, none⟩), .agg #[.int .i64 p.kind, .int .i64 p.pos, .string (bs p.text), .slice Av p.path.length cv, .string (bs p.name), .int .i64 p.place]] w (TakePost w B N (takeS (stOf out fs) p)) := by
  have H60 : Hid (∀ W, Below w.heap.size w W → Calls Tryd.prog 60 #[.pointer (some ⟨N, 0, none⟩)] W fun e w' => e = .returned (lastP fs) ∧ ∃ q, w' = W.drewN q) :=
    fun W hb => last_any W B N outV openV fs out (h.keep hb)
  have hb1 : Below w.heap.size w (w.alloc (.cells #[.int .i64 p.kind, .int .i64 p.pos, .string (bs p.text), .slice Av p.path.length cv, .string (bs p.name), .int .i64 p.place] 35)) := (Below.refl _ w).alloc (Nat.le_refl _) _
  have HB1 := Lib.hid hb1
  have HNI := Lib.hid h
  obtain ⟨R, hR⟩ : ∃ R, R = takeS (stOf out fs) p := ⟨_, rfl⟩
  rw [← hR]
  unfold takeS at hR
  rw [if_neg (by intro h; have := blockK_not h; omega), if_pos hk] at hR
  have HR := Lib.hid hR
  obtain ⟨kd, hkd⟩ : ∃ kd, kd = p.kind := ⟨_, rfl⟩
  rw [← hkd] at hk HB1 ⊢
  clear h hR hb1 hkd
  subst hk
  cases fs with
  | nil =>
    rw [show lastP ([] : List FrM) = .pointer none from rfl] at H60
    have HRf : Hid (R = none) := HR.out
    clear HR
    go_enter Tryd.func36, Tryd.ntmps36
    go_wp2_with (go_at_call 60; refine (H60.out _ HB1.out).mono ?_; rintro e w1 ⟨rfl, q, rfl⟩)
    go_ret
    rw [HRf.out]
    exact ⟨rfl, HB1.out.trans ((drewN_below _ q).mono HB1.out.size)⟩
  | cons x r =>
    rw [show lastP (x :: r) = .pointer (some ⟨x.b, 0, none⟩) from rfl] at H60
    have HR : Hid (R = if x.fr.p.kind ≠ 4 ∨ x.fr.flag = true then none else some ⟨out, ⟨x.fr.p, x.fr.kids, x.fr.other, true⟩ :: r.map (·.fr)⟩) := HR.out
    go_enter Tryd.func36, Tryd.ntmps36
    go_upto_region 10 with (go_at_call 60; refine (H60.out _ HB1.out).mono ?_; rintro e w1 ⟨rfl, q, rfl⟩)
    have hb2 := HB1.out.trans ((drewN_below _ q).mono HB1.out.size)
    obtain ⟨W, hW⟩ : ∃ W, W = (w.alloc (.cells #[.int .i64 5, .int .i64 p.pos, .string (bs p.text), .slice Av p.path.length cv, .string (bs p.name), .int .i64 p.place] 35)).drewN q := ⟨_, rfl⟩
    rw [← hW] at hb2 ⊢
    clear hW
    have hNIW := HNI.out.keep hb2
    have hBW : B ≤ W.heap.size := Nat.le_trans hB hb2.size
    have hfx := hNIW.fr x (List.mem_cons_self ..)
    have n0 := blk_cell hfx.1 0
    have n8 := blk_cell hfx.1 8
    have m8 := blk_frozen hfx.1 8
    simp only [List.getElem?_cons_zero, List.getElem?_cons_succ, frCells] at n0 n8
    have HNIW := Lib.hid hNIW; have HB2 := Lib.hid hb2; have HFX := Lib.hid hfx
    clear hb2 hNIW hfx
    by_cases h4 : x.fr.p.kind = 4
    · rw [h4] at n0
      cases hf : x.fr.flag with
      | true =>
        rw [hf] at n8
        have hr := HR.out
        rw [if_pos (.inr hf)] at hr
        have HRf := Lib.hid hr
        clear hr hf h4
        go_wp2_with fail
        go_ret
        rw [HRf.out]
        exact ⟨rfl, HB2.out⟩
      | false =>
        rw [hf] at n8
        have hr := HR.out
        rw [if_neg (by rintro (h | h); exact h h4; rw [hf] at h; cases h)] at hr
        have HRf := Lib.hid hr
        have hfin : NIs (W.setCell ⟨x.b, 8, none⟩ (.bool true)) B N ⟨out, ⟨x.fr.p, x.fr.kids, x.fr.other, true⟩ :: r.map (·.fr)⟩ ∧ Below B W (W.setCell ⟨x.b, 8, none⟩ (.bool true)) := by
          have hxm : x.b ∈ fbN N outV openV (x :: r) := by simp [fbN, FrM.fb]
          have hb := blk_set HFX.out.1 8 (.bool true)
          refine ⟨⟨outV, openV, ⟨⟨x.fr.p, x.fr.kids, x.fr.other, true⟩, x.b, x.pv, x.kv, x.ov⟩ :: r, NI.flagged HNIW.out (by simp) (fun k hk hn => Below.heap_setCell W ⟨x.b, 8, none⟩ _ k hn) _ rfl hb, rfl⟩, ?_⟩
          exact (Below.refl B W).setCell (HNIW.out.lt x.b hxm).1 _
        have HF := Lib.hid hfin
        clear hr hf h4 hfin
        go_wp2_with fail
        go_ret
        rw [HRf.out]
        exact ⟨rfl, HF.out.1, (HB2.out.mono hB).trans HF.out.2⟩
    · have t4 : (x.fr.p.kind != 4) = true := by rw [bne_iff_ne]; exact h4
      have hr := HR.out
      rw [if_pos (.inl h4)] at hr
      have HRf := Lib.hid hr
      clear hr h4
      go_wp2_with fail
      go_ret
      rw [HRf.out]
      exact ⟨rfl, HB2.out⟩
set_option maxHeartbeats 8000000 in
set_option maxRecDepth 100000 in
/-- An end. -/
theorem take_end (w : World) (B N : Nat) (outV openV : Value) (fs : List FrM) (out : List Part) (h : NI w B N outV openV fs out) (hB : B ≤ w.heap.size) (hl : (stOf out (fs.drop 1)).cur.length ≤ 1000000) (hfl : fs.length ≤ 1000000) (p : Pc) (Av : Option Addr) (cv : Nat) (hk : p.kind = 6) :
    Calls Tryd.prog 36 #[.pointer (some ⟨N, 0, none⟩), .agg #[.int .i64 p.kind, .int .i64 p.pos, .string (bs p.text), .slice Av p.path.length cv, .string (bs p.name), .int .i64 p.place]] w (TakePost w B N (takeS (stOf out fs) p)) := by
  have H60 : Hid (∀ W, Below w.heap.size w W → Calls Tryd.prog 60 #[.pointer (some ⟨N, 0, none⟩)] W fun e w' => e = .returned (lastP fs) ∧ ∃ q, w' = W.drewN q) :=
    fun W hb => last_any W B N outV openV fs out (h.keep hb)
  have hb1 : Below w.heap.size w (w.alloc (.cells #[.int .i64 p.kind, .int .i64 p.pos, .string (bs p.text), .slice Av p.path.length cv, .string (bs p.name), .int .i64 p.place] 35)) := (Below.refl _ w).alloc (Nat.le_refl _) _
  have HB1 := Lib.hid hb1
  have HNI := Lib.hid h
  obtain ⟨R, hR⟩ : ∃ R, R = takeS (stOf out fs) p := ⟨_, rfl⟩
  rw [← hR]
  unfold takeS at hR
  rw [if_neg (by intro h; have := blockK_not h; omega), if_neg (by omega), if_pos hk] at hR
  have HR := Lib.hid hR
  obtain ⟨kd, hkd⟩ : ∃ kd, kd = p.kind := ⟨_, rfl⟩
  rw [← hkd] at hk HB1 ⊢
  clear h hR hb1 hkd
  subst hk
  cases fs with
  | nil =>
    rw [show lastP ([] : List FrM) = .pointer none from rfl] at H60
    have HRf : Hid (R = none) := HR.out
    clear HR
    go_enter Tryd.func36, Tryd.ntmps36
    go_wp2_with (go_at_call 60; refine (H60.out _ HB1.out).mono ?_; rintro e w1 ⟨rfl, q, rfl⟩)
    go_ret
    rw [HRf.out]
    exact ⟨rfl, HB1.out.trans ((drewN_below _ q).mono HB1.out.size)⟩
  | cons x r =>
    rw [show lastP (x :: r) = .pointer (some ⟨x.b, 0, none⟩) from rfl] at H60
    have HRf : Hid (R = some (putS (stOf out r) (.mk x.fr.p x.fr.kids x.fr.other))) := HR.out
    obtain ⟨g, cap, rfl, hgB, hgl, hc, hm, _⟩ := HNI.out.openForm
    unfold maxLen at hm
    have HL := Lib.hid hl
    obtain ⟨n, hn⟩ : ∃ n, n = r.length := ⟨_, rfl⟩
    have Hn := Lib.hid hn
    rw [← hn] at hc
    have hfl : n ≤ 1000000 := by rw [hn]; simp at hfl; omega
    clear HR hl hn
    go_enter Tryd.func36, Tryd.ntmps36
    go_upto_region 16 with (go_at_call 60; refine (H60.out _ HB1.out).mono ?_; rintro e w1 ⟨rfl, q, rfl⟩)
    have hb2 := HB1.out.trans ((drewN_below _ q).mono HB1.out.size)
    obtain ⟨W, hW⟩ : ∃ W, W = (w.alloc (.cells #[.int .i64 6, .int .i64 p.pos, .string (bs p.text), .slice Av p.path.length cv, .string (bs p.name), .int .i64 p.place] 35)).drewN q := ⟨_, rfl⟩
    rw [← hW] at hb2 ⊢
    clear hW
    have hNIW := HNI.out.keep hb2
    have hBW : B ≤ W.heap.size := Nat.le_trans hB hb2.size
    have n1 := blk_cell hNIW.blk 1
    have m1 := blk_frozen hNIW.blk 1
    simp only [List.getElem?_cons_zero, List.getElem?_cons_succ] at n1
    rw [← Hn.out] at n1
    have HNIW := Lib.hid hNIW; have HB2 := Lib.hid hb2
    clear hb2 hNIW
    have g1 : IntKind.i64.wrap ((n : Int) + 1 - 1) = (n : Int) := by rw [show (n : Int) + 1 - 1 = n from by omega]; exact IntWalk.i64_in _ (by omega)
    have g2 : IntKind.i64.wrap (n : Int) = (n : Int) := IntWalk.i64_in _ (by omega)
    have g4 : (0 : Int) ≤ (n : Int) := by omega
    have g5 : (n : Int) < (n : Int) + 1 := by omega
    have g6 : ((n : Int)).toNat = n := by omega
    have g7 : (n : Int) ≤ (cap : Int) := by omega
    go_still_tail 14, (by kernel_rfl)
    change wpList _ _ _ _ _ W.drew
    clear g1 g2 g4 g5 g6 g7
    go_upto_region 17 with fail
    have hn := Hn.out
    subst hn
    have hNm : N ∈ fbN N outV (.slice (some ⟨g, 0, none⟩) (r.length + 1) cap) (x :: r) := by simp [fbN]
    obtain ⟨hp1, hp2, hp3, hp4⟩ := NI.popped (w' := (W.setCell ⟨N, 1, none⟩ (.slice (some ⟨g, 0, none⟩) r.length cap)).drew) HNIW.out (by show W.heap.size ≤ (W.setCell _ _).heap.size; simp) (fun k hk hn => Below.heap_setCell W ⟨N, 1, none⟩ _ k hn) (blk_set HNIW.out.blk 1 _)
    have hb3 : Below B W (W.setCell ⟨N, 1, none⟩ (.slice (some ⟨g, 0, none⟩) r.length cap)).drew := ((Below.refl B W).setCell (HNIW.out.lt N hNm).1 _).drew
    have hxN : x.b ≠ N := by
      intro e
      have hnd := HNIW.out.nodup
      simp only [fbN, FrM.fb, List.flatMap_cons, List.cons_append, List.nodup_cons, List.nodup_append, List.mem_append, List.mem_cons] at hnd
      grind
    have hbx : Blk (W.setCell ⟨N, 1, none⟩ (.slice (some ⟨g, 0, none⟩) r.length cap)).drew x.b 98 (frCells x) := blk_far (HNIW.out.fr x (List.mem_cons_self ..)).1 hxN _
    have hs3 : W.heap.size ≤ (W.setCell ⟨N, 1, none⟩ (.slice (some ⟨g, 0, none⟩) r.length cap)).drew.heap.size := by show W.heap.size ≤ (W.setCell _ _).heap.size; simp
    obtain ⟨W2, hW2⟩ : ∃ W2, W2 = (W.setCell ⟨N, 1, none⟩ (.slice (some ⟨g, 0, none⟩) r.length cap)).drew := ⟨_, rfl⟩
    rw [← hW2] at hp1 hp2 hp3 hp4 hb3 hbx hs3 ⊢
    clear hW2 n1 m1
    have e0 := blk_cell hbx 0; have e1 := blk_cell hbx 1; have e2 := blk_cell hbx 2; have e3 := blk_cell hbx 3; have e4 := blk_cell hbx 4; have e5 := blk_cell hbx 5; have e6 := blk_cell hbx 6; have e7 := blk_cell hbx 7
    simp only [List.getElem?_cons_zero, List.getElem?_cons_succ, frCells] at e0 e1 e2 e3 e4 e5 e6 e7
    have H61 := Lib.hid (put_any W2 B N outV _ r out hp1 (Nat.le_trans hBW hs3) HL.out x.fr.p x.fr.kids x.fr.other _ _ _ hp2 hp3 hp4)
    have HB3 := Lib.hid hb3
    clear hp1 hp2 hp3 hp4 hb3 hbx hs3 hNm hxN
    go_wp2_with (go_at_call 61; refine H61.out.mono ?_; rintro e w5 ⟨⟨v, rfl⟩, hn5, hb5⟩; have HN5 := Lib.hid hn5; clear hn5)
    go_ret
    rw [HRf.out]
    exact ⟨rfl, HN5.out, ((HB2.out.mono hB).trans HB3.out).trans hb5⟩
end Go.Proofs.YthilkpjdfjjikaaDoor
end
