/-
  The document's block, walked.
-/
import Derived.Outline
import Derived.Test.YthilkpjdfjjikaaDoorNes
set_option linter.unusedVariables false
set_option linter.unusedSimpArgs false
namespace Go.Proofs.YthilkpjdfjjikaaDoor
open Go.RowKit
attribute [local go_sem ↓] Go.wp_at_zero Go.wp_at_succ

/-- The blocks that a block's parts are read from: what came in, and what is new. -/
def QN (P : Nat → Prop) (B : Nat) (w : World) (b : Nat) : Prop := P b ∨ (B ≤ b ∧ b < w.heap.size)
/-- .. without the growing row. -/
def QV (P : Nat → Prop) (B : Nat) (w : World) (v : Value) (b : Nat) : Prop := P b ∨ (B ≤ b ∧ b < w.heap.size ∧ v.ownBlock ≠ some b)
def BlockPost (w : World) (P : Nat → Prop) (b : BR) (e : Ending) (w' : World) : Prop :=
  ∃ v, e = .returned (.tuple #[v, .int .i64 ((b.k : Nat) : Int), .int .i64 b.bad]) ∧ VRd w' (QN P w.heap.size w') v b.out ∧ Below w.heap.size w w'
theorem block_range (l : List Pc) (F i d : Nat) (h : l.length - i < F) (hi : i ≤ l.length) (hd : d ≤ 12) :
    (0 ≤ (blockL F l i d []).bad → (blockL F l i d []).bad ≤ l.length) ∧ (¬ 0 ≤ (blockL F l i d []).bad → i ≤ (blockL F l i d []).k ∧ (blockL F l i d []).k ≤ l.length ∧ ((blockL F l i d []).k < l.length → (pcAt l (blockL F l i d []).k).kind = 5 ∨ (pcAt l (blockL F l i d []).k).kind = 6)) := by
  have hb := block_nest l 0 F i d ⟨[], List.replicate d ⟨⟨0, 0, [], [], [], 0⟩, [], [], false⟩⟩ h hi (by simp) hd
  have hc : (⟨[], List.replicate d ⟨⟨0, 0, [], [], [], 0⟩, [], [], false⟩⟩ : NSt).cur = [] := by cases d <;> rfl
  rw [hc] at hb
  exact ⟨fun h => (hb.1 h).1, fun h => ⟨(hb.2 h).1, (hb.2 h).2.1, (hb.2 h).2.2.1⟩⟩
theorem block_push {W w1 : World} {B n g cap : Nat} {P : Nat → Prop} {v : Value} {out : List Part} (hP : ∀ b, P b → b < B) (hBW : B ≤ W.heap.size) (hn : n = out.length) (p : Pc) (ks os : List Part) (pv kv ov : Value)
    (r1 : PathRd W (QV P B W v) pv p.path) (r2 : VRd W (QV P B W v) kv ks) (r3 : VRd W (QV P B W v) ov os)
    (qs : List PV) (e : qs.map (·.1) = out) (hv : ∀ k, v.ownBlock = some k → B ≤ k ∧ k < W.heap.size) (hq : ∀ q ∈ qs, PathRd W (QV P B W v) q.2.1 q.1.pc.path ∧ VRd W (QV P B W v) q.2.2.1 q.1.kids ∧ VRd W (QV P B W v) q.2.2.2 q.1.other)
    {o : Obj} (hown : w1.ownsRow B 74 8 (.slice (some ⟨g, 0, none⟩) (n + 1) cap) (n + 1) (qs.flatMap qcell ++ ptc p pv kv ov)) (hgrow : (W.alloc o).grownBy w1 v.ownBlock) (hat : v.ownBlock = some g ∨ g = W.heap.size + 1) :
    VOwn w1 B (QV P B w1 (.slice (some ⟨g, 0, none⟩) (n + 1) cap)) (.slice (some ⟨g, 0, none⟩) (n + 1) cap) (out ++ [.mk p ks os]) ∧ Below B W w1 := by
  subst hn
  have hs1 : W.heap.size + 1 ≤ w1.heap.size := by have := hgrow.size; rw [World.size_alloc] at this; exact this
  have hk : ∀ k, k < W.heap.size → v.ownBlock ≠ some k → w1.heap[k]? = W.heap[k]? := fun k hk hr =>
    (hgrow.block k (by rw [World.size_alloc]; omega) (fun e => hr e.symm)).trans (Below.heap_alloc W o k hk)
  have hlt : ∀ b, QV P B W v b → b < W.heap.size ∧ v.ownBlock ≠ some b := by
    rintro b (h | ⟨h1, h2, h3⟩)
    · exact ⟨by have := hP b h; omega, fun e => by have := (hv b e).1; have := hP b h; omega⟩
    · exact ⟨h2, h3⟩
  have hgB : B ≤ g := by rcases hat with h | h; exact (hv g h).1; omega
  refine ⟨VOwn.pushed qs e hq (fun b hb => hk b (hlt b hb).1 (hlt b hb).2) ?_ p ks os pv kv ov r1 r2 r3 hown, ?_⟩
  · rintro b (h | ⟨h1, h2, h3⟩)
    · exact .inl h
    · refine .inr ⟨h1, by omega, fun e => ?_⟩
      have e : g = b := by injection e
      subst e
      rcases hat with h | h
      · exact h3 h
      · omega
  · exact ((Below.refl B W).alloc hBW o).grown hgrow (by rw [World.size_alloc]; omega) (fun k hk => (hv k hk).1)
/-- What an inner block left reads on. -/
theorem QN.toV {P : Nat → Prop} {B : Nat} {w4 w5 W : World} {v : Value} (h4 : B ≤ w4.heap.size) (h5 : w5.heap.size ≤ W.heap.size) (hv : ∀ k, v.ownBlock = some k → k < w4.heap.size) {b : Nat} (h : QN P w4.heap.size w5 b) : QV P B W v b :=
  h.imp id (fun ⟨h1, h2⟩ => ⟨by omega, by omega, fun e => by have := hv b e; omega⟩)
theorem QV.more {P : Nat → Prop} {B : Nat} {w W : World} {v : Value} (h : w.heap.size ≤ W.heap.size) {b : Nat} (hb : QV P B w v b) : QV P B W v b := hb.imp id (fun ⟨h1, h2, h3⟩ => ⟨h1, by omega, h3⟩)
set_option maxHeartbeats 16000000 in
set_option maxRecDepth 100000 in
theorem blockR_any : ∀ (N F : Nat) (ps : List Pc) (i d : Nat) (P : Nat → Prop) (v : Value) (w : World), F ≤ N → PcsRd w P v ps → (∀ b, P b → b < w.heap.size) → ps.length ≤ 900000 → ps.length - i < F → i ≤ ps.length → d ≤ 12 →
    Calls Tryd.prog 37 #[v, .int .i64 (i : Int), .int .i64 (d : Int)] w (BlockPost w P (blockL F ps i d [])) := by
  intro N
  induction N with
  | zero => intro F ps i d P v w h1 h2 h3 h4 h5; omega
  | succ N ih =>
    intro F ps i d P v w hFN h hP hn hF hi hd
    have hrd := h
    obtain ⟨A, c, rfl, hc, _⟩ := h
    have HP := Lib.hid hP; have HI := Lib.hid ih
    obtain ⟨i0, hi0, hz0, hz1, hz2⟩ := info_parts info74
    obtain ⟨R, hR⟩ : ∃ R, R = blockL F ps i d [] := ⟨_, rfl⟩
    rw [← hR]
    have HR := Lib.hid hR
    obtain ⟨n, hne⟩ : ∃ n, n = ps.length := ⟨_, rfl⟩
    rw [← hne] at hn hc hrd hF hi ⊢
    have Hn := Lib.hid hne; have H := Lib.hid hrd
    clear hP hR hne hrd ih
    go_enter Tryd.func37, Tryd.ntmps37
    go_wp2_with fail
    go_loopw [1, 9] (fun iv v wr => ∃ (i F : Nat) (out : List Part), iv = .int .i64 (i : Int) ∧ i ≤ n ∧ n - i < F ∧ F ≤ N + 1 ∧ R = blockL F ps i d out ∧ VOwn wr w.heap.size (QV P w.heap.size wr v) v out ∧ out.length ≤ i ∧ Below w.heap.size w wr) (fun iv _ _ => n - (intOf iv).toNat)
    case atStart => exact ⟨i, F, [], rfl, hi, hF, hFN, HR.out, VOwn.nil, Nat.zero_le _, Below.refl _ _⟩
    case round =>
      clear hF hFN hi HR
      obtain ⟨i, F, out, rfl, hi, hF, hFN, hR, hv, hol, hbr⟩ := hrel
      have HV := Lib.hid hv; have HRi := Lib.hid hR; have HBR := Lib.hid hbr
      have hbs := hbr.size
      obtain ⟨Ao, co, rfl, hco⟩ := hv.form
      by_cases hin : i < n
      · skip
        have ti : decide ((i : Int) < (n : Int)) = true := by rw [decide_eq_true_eq]; omega
        obtain ⟨F, rfl⟩ : ∃ F', F = F' + 1 := ⟨F - 1, by omega⟩
        obtain ⟨b, off, Ap, cp, rfl, hPb, hcell, hpl, hprd⟩ := (H.out.below hbr HP.out).cells Hn.out i hin
        obtain ⟨p, hp⟩ : ∃ p, pcAt ps i = p := ⟨_, rfl⟩
        rw [hp] at hcell hpl hprd
        obtain ⟨b1, hb1⟩ : ∃ b1, blockL F ps (i + 1) (d + 1) [] = b1 := ⟨_, rfl⟩
        obtain ⟨c1, hc1⟩ : ∃ c1, blockL F ps (b1.k + 1) (d + 1) [] = c1 := ⟨_, rfl⟩
        have hst := blockL_step F ps i d out (by rw [← Hn.out]; exact hin) p hp b1 c1 hb1 hc1
        rw [← hR, ← Hn.out] at hst
        have HST := Lib.hid hst
        have e0 := hcell 0 (by decide); have e1 := hcell 1 (by decide); have e2 := hcell 2 (by decide); have e3 := hcell 3 (by decide); have e4 := hcell 4 (by decide); have e5 := hcell 5 (by decide)
        simp only [pcc, List.getElem?_cons_zero, List.getElem?_cons_succ, Nat.add_zero] at e0 e1 e2 e3 e4 e5
        have hbl : b < w.heap.size := HP.out b hPb
        have hbl2 : b < wr.heap.size := by omega
        have HPR := Lib.hid hprd; have HB1 := Lib.hid hb1; have HC1 := Lib.hid hc1; have HPP := Lib.hid hp
        obtain ⟨kd, hkd⟩ : ∃ kd, kd = p.kind := ⟨_, rfl⟩
        rw [← hkd] at e0
        have HKD := Lib.hid hkd
        clear hcell hprd hst hb1 hc1 hp hR hv hbr HRi hPb hkd
        have hg := blk_new wr 74 #[.int .i64 kd, .int .i64 p.pos, .string (bs p.text), .slice Ap p.path.length cp, .string (bs p.name), .int .i64 p.place, .slice none 0 0, .slice none 0 0]
        go_upto_region 5 with fail
        have hbw : Below wr.heap.size wr (wr.alloc (.cells #[.int .i64 kd, .int .i64 p.pos, .string (bs p.text), .slice Ap p.path.length cp, .string (bs p.name), .int .i64 p.place, .slice none 0 0, .slice none 0 0] 74)) := (Below.refl _ wr).alloc (Nat.le_refl _) _
        obtain ⟨W, hW⟩ : ∃ W, W = wr.alloc (.cells #[.int .i64 kd, .int .i64 p.pos, .string (bs p.text), .slice Ap p.path.length cp, .string (bs p.name), .int .i64 p.place, .slice none 0 0, .slice none 0 0] 74) := ⟨_, rfl⟩
        have hWs : W.heap.size = wr.heap.size + 1 := by rw [hW]; simp
        rw [← hW] at hg hbw ⊢
        have hsW : wr.heap.size < W.heap.size := by omega
        clear hW e1 e2 e3 e4 e5 e0 hWs
        obtain ⟨g, hge⟩ : ∃ g, g = wr.heap.size := ⟨_, rfl⟩
        rw [← hge] at hg ⊢
        have HG := Lib.hid hg; have HBW := Lib.hid hbw; have HGE := Lib.hid hge
        clear hg hbw hge
        by_cases h56 : kd = 5 ∨ kd = 6
        · have hr := HST.out
          rw [if_pos (by rw [← HKD.out]; exact h56)] at hr
          have HRf := Lib.hid hr
          clear hr HKD
          rcases h56 with rfl | rfl
          all_goals
            go_wp2_with fail
            go_ret3
            refine ⟨_, by rw [HRf.out]; rfl, ?_, HBR.out.trans (HBW.out.mono hbs)⟩
            rw [HRf.out]
            have hvw := HV.out.frame (w' := W) (P' := QN P w.heap.size W) (fun k ek => HBW.out.block k (HV.out.own k ek).2) (fun b hb => HBW.out.block b (by rcases hb with h | h; have := HP.out b h; omega; exact h.2.1)) (fun b hb => hb.imp id (fun h => ⟨h.1, by omega⟩))
            exact hvw.read (fun k ek => .inr ⟨(hvw.own k ek).1, (hvw.own k ek).2⟩) (fun _ h => h)
        · have hr := HST.out
          rw [if_neg (by rw [← HKD.out]; exact h56)] at hr
          have HR2 := Lib.hid hr
          clear hr
          have HBWW : Hid (Below w.heap.size w W) := HBR.out.trans (HBW.out.mono hbs)
          have HVW : Hid (VOwn W w.heap.size (QV P w.heap.size W (.slice Ao out.length co)) (.slice Ao out.length co) out) :=
            HV.out.frame (fun k ek => HBW.out.block k (HV.out.own k ek).2) (fun b hb => HBW.out.block b (by rcases hb with h | h; have := HP.out b h; omega; exact h.2.1)) (fun b hb => QV.more (by omega) hb)
          have HR1W : Hid (PathRd W (QV P w.heap.size W (.slice Ao out.length co)) (.slice Ap p.path.length cp) p.path) :=
            HPR.out.frame (fun b hb => HBW.out.block b (by have := HP.out b hb; omega)) (fun b hb => .inl hb)
          have hgW : g < W.heap.size := blk_lt HG.out
          have hgw : w.heap.size ≤ g := by have := HGE.out; omega
          have hown : ∀ k, (Value.slice Ao out.length co).ownBlock = some k → w.heap.size ≤ k ∧ k < wr.heap.size := fun k hk => HV.out.own k hk
          have HOWN := Lib.hid hown
          have hge : g = wr.heap.size := HGE.out
          have HGE2 := Lib.hid hge
          clear hown hge
          by_cases h34 : kd = 3 ∨ kd = 4
          · have hr := HR2.out
            rw [if_pos (by rw [← HKD.out]; rcases h34 with h | h <;> rw [h] <;> rfl)] at hr
            have HR3 := Lib.hid hr
            clear hr h56
            rcases h34 with rfl | rfl
            · skip
              have HKD : Hid ((3 : Int) = p.kind) := HKD
              by_cases hd12 : d = 12
              · have hr := HR3.out
                rw [if_pos hd12] at hr
                have HRf := Lib.hid hr
                have td : ((d : Int) == 12) = true := by rw [beq_iff_eq]; omega
                clear hr hd12
                go_wp2_with fail
                go_ret3
                exact ⟨_, by rw [HRf.out]; rfl, by rw [HRf.out]; exact VRd.nil, HBWW.out⟩
              · have hr := HR3.out
                rw [if_neg hd12] at hr
                have HR4 := Lib.hid hr
                have td : ((d : Int) == 12) = false := by rw [beq_eq_false_iff_ne]; omega
                have hrg := block_range ps F (i + 1) (d + 1) (by rw [← Hn.out]; omega) (by rw [← Hn.out]; omega) (by omega)
                rw [HB1.out, ← Hn.out] at hrg
                have HRG := Lib.hid hrg
                have h37 := HI.out F ps (i + 1) (d + 1) P (.slice (some ⟨b, off, none⟩) n c) W (by omega) (H.out.below HBWW.out HP.out) (fun b hb => by have := HP.out b hb; omega) (by rw [← Hn.out]; exact hn) (by rw [← Hn.out]; omega) (by rw [← Hn.out]; omega) (by omega)
                rw [HB1.out, show ((i + 1 : Nat) : Int) = (i : Int) + 1 from by omega, show ((d + 1 : Nat) : Int) = (d : Int) + 1 from by omega] at h37
                have H37 := Lib.hid h37
                have hd13 : d + 1 ≤ 12 := by omega
                clear hr hrg h37 hd12
                go_upto_region 13 with (go_at_call 37; refine H37.out.mono ?_; rintro e w5 ⟨v5, rfl, hv5, hb5⟩; obtain ⟨A5, c5, rfl, _, _⟩ := id hv5; have HV5 := Lib.hid hv5; have HB5 := Lib.hid hb5; clear hv5 hb5)
                have hg5 := blk_below HG.out HB5.out hgW
                have HG5 := Lib.hid hg5
                have hs5 := HB5.out.size
                have HBW5 : Hid (Below w.heap.size w w5) := HBWW.out.trans (HB5.out.mono (by omega))
                clear hg5
                by_cases hbb : 0 ≤ b1.bad
                · have hr := HR4.out
                  rw [if_pos hbb] at hr
                  have HRf := Lib.hid hr
                  have tb : decide (b1.bad ≥ 0) = true := decide_eq_true hbb
                  clear hr hbb HR4
                  go_wp2_with fail
                  go_ret3
                  exact ⟨_, by rw [HRf.out]; rfl, by rw [HRf.out]; exact VRd.nil, HBW5.out⟩
                · have hr := HR4.out
                  rw [if_neg hbb] at hr
                  have HR5 := Lib.hid hr
                  have tb : decide (b1.bad ≥ 0) = false := by rw [decide_eq_false_iff_not]; exact hbb
                  obtain ⟨hk1, hk2, hk3⟩ := HRG.out.2 (by omega)
                  have HK3 := Lib.hid hk3
                  clear hr hbb HR4 HRG hk3
                  have q6 := blk_cell HG5.out 6
                  have qf6 := blk_frozen HG5.out 6
                  simp only [List.getElem?_cons_zero, List.getElem?_cons_succ] at q6
                  go_upto_region 16 with fail
                  have hgX : Blk (w5.setCell ⟨g, 6, none⟩ (.slice A5 b1.out.length c5)) g 74 [.int .i64 3, .int .i64 p.pos, .string (bs p.text), .slice Ap p.path.length cp, .string (bs p.name), .int .i64 p.place, .slice A5 b1.out.length c5, .slice none 0 0] := blk_set HG5.out 6 _
                  have hbX : Below w.heap.size w (w5.setCell ⟨g, 6, none⟩ (.slice A5 b1.out.length c5)) := HBW5.out.setCell hgw _
                  have hbY : Below wr.heap.size wr (w5.setCell ⟨g, 6, none⟩ (.slice A5 b1.out.length c5)) := (HBW.out.trans (HB5.out.mono (by omega))).setCell (by show wr.heap.size ≤ g; have := HGE2.out; omega) _
                  have hvk : VRd (w5.setCell ⟨g, 6, none⟩ (.slice A5 b1.out.length c5)) (QV P w.heap.size (w5.setCell ⟨g, 6, none⟩ (.slice A5 b1.out.length c5)) (.slice Ao out.length co)) (.slice A5 b1.out.length c5) b1.out := by
                    refine HV5.out.frame (fun b hb => Below.heap_setCell w5 ⟨g, 6, none⟩ _ b ?_) (fun b hb => QN.toV (by omega) (by simp) (fun k hk => by have := (HOWN.out k hk).2; omega) hb)
                    show b ≠ g
                    rcases hb with h | h
                    · have := HP.out b h; omega
                    · omega
                  have hv5x : VRd (w5.setCell ⟨g, 6, none⟩ (.slice A5 b1.out.length c5)) (QN P W.heap.size w5) (.slice A5 b1.out.length c5) b1.out := by
                    refine HV5.out.frame (fun b hb => Below.heap_setCell w5 ⟨g, 6, none⟩ _ b ?_) (fun b hb => hb)
                    show b ≠ g
                    rcases hb with h | h
                    · have := HP.out b h; omega
                    · omega
                  have hs5x : w5.heap.size ≤ (w5.setCell ⟨g, 6, none⟩ (.slice A5 b1.out.length c5)).heap.size := by simp
                  obtain ⟨WX, hWX⟩ : ∃ WX, WX = w5.setCell ⟨g, 6, none⟩ (.slice A5 b1.out.length c5) := ⟨_, rfl⟩
                  rw [← hWX] at hgX hbX hbY hvk hv5x hs5x ⊢
                  have HV5X := Lib.hid hv5x
                  clear hv5x
                  clear hWX q6 qf6
                  have HGX := Lib.hid hgX; have HBX := Lib.hid hbX; have HBY := Lib.hid hbY; have HVK := Lib.hid hvk
                  have hsX := hbY.size
                  have hvx : VOwn WX w.heap.size (QV P w.heap.size WX (.slice Ao out.length co)) (.slice Ao out.length co) out :=
                    HV.out.frame (fun k ek => hbY.block k (HV.out.own k ek).2) (fun b hb => hbY.block b (by rcases hb with h | h; have := HP.out b h; omega; exact h.2.1)) (fun b hb => QV.more (by omega) hb)
                  have HVX := Lib.hid hvx
                  clear hgX hbX hbY hvk hvx
                  by_cases hk5 : b1.k < n ∧ (pcAt ps b1.k).kind = 5
                  · have hr := HR5.out
                    rw [if_pos hk5] at hr
                    have HR6 := Lib.hid hr
                    obtain ⟨hkn, hkk⟩ := hk5
                    have tk : decide ((b1.k : Int) < (n : Int)) = true := by rw [decide_eq_true_eq]; omega
                    have j0 : WX.cell? ⟨b, off + b1.k * 6, none⟩ = some (.int .i64 (pcAt ps b1.k).kind) := by
                      obtain ⟨b', off', A', c', he, _, hc', _⟩ := (H.out.below HBX.out HP.out).cells Hn.out b1.k (by omega)
                      cases he
                      exact hc' 0 (by decide)
                    rw [hkk] at j0
                    have j1 : WX.cell? ⟨b, off + i * 6, none⟩ = some (.int .i64 (pcAt ps i).kind) := by
                      obtain ⟨b', off', A', c', he, _, hc', _⟩ := (H.out.below HBX.out HP.out).cells Hn.out i (by omega)
                      cases he
                      exact hc' 0 (by decide)
                    rw [HPP.out, ← HKD.out] at j1
                    have hjb : b < WX.heap.size := by omega
                    clear hr hkk HR5
                    have hr := HR6.out
                    rw [if_pos (by rw [← HKD.out])] at hr
                    have HRf := Lib.hid hr
                    clear hr HR6
                    go_wp2_with fail
                    go_ret3
                    exact ⟨_, by rw [HRf.out]; rfl, by rw [HRf.out]; exact VRd.nil, HBX.out⟩
                  · have hr := HR5.out
                    rw [if_neg hk5] at hr
                    have HRX := Lib.hid hr
                    have R2 := HVK
                    have R3 : Hid (VRd WX (QV P w.heap.size WX (.slice Ao out.length co)) (.slice none 0 0) []) := VRd.nil
                    clear hr HR5
                    by_cases hbn : b1.k < n
                    · have hk6 : (pcAt ps b1.k).kind = 6 := (HK3.out hbn).resolve_left (fun h => hk5 ⟨hbn, h⟩)
                      have tk : decide ((b1.k : Int) < (n : Int)) = true := by rw [decide_eq_true_eq]; omega
                      have j0 : WX.cell? ⟨b, off + b1.k * 6, none⟩ = some (.int .i64 (pcAt ps b1.k).kind) := by
                        obtain ⟨b', off', A', c', he, _, hc', _⟩ := (H.out.below HBX.out HP.out).cells Hn.out b1.k (by omega)
                        cases he
                        exact hc' 0 (by decide)
                      rw [hk6] at j0
                      have hjb : b < WX.heap.size := by omega
                      clear hk5 hk6
                      go_upto_region 26 with fail
                      clear j0
                      by_cases hkn : b1.k = n
                      · have hr := HRX.out
                        rw [if_pos hkn] at hr
                        have HRf := Lib.hid hr
                        have tkn : ((b1.k : Int) == (n : Int)) = true := by rw [beq_iff_eq]; omega
                        clear hr hkn
                        go_wp2_with fail
                        go_ret3
                        exact ⟨_, by rw [HRf.out]; rfl, by rw [HRf.out]; exact VRd.nil, HBX.out⟩
                      · have hr := HRX.out
                        rw [if_neg hkn] at hr
                        have HNXT := Lib.hid hr
                        have tkn : ((b1.k : Int) == (n : Int)) = false := by rw [beq_eq_false_iff_ne]; omega
                        have hkl : b1.k < n := by omega
                        clear hr hkn HRX
                        have d0 := blk_cell HGX.out 0; have d1 := blk_cell HGX.out 1; have d2 := blk_cell HGX.out 2; have d3 := blk_cell HGX.out 3; have d4 := blk_cell HGX.out 4; have d5 := blk_cell HGX.out 5; have d6 := blk_cell HGX.out 6; have d7 := blk_cell HGX.out 7
                        simp only [List.getElem?_cons_zero, List.getElem?_cons_succ] at d0 d1 d2 d3 d4 d5 d6 d7
                        have R1 : Hid (PathRd WX (QV P w.heap.size WX (.slice Ao out.length co)) (.slice Ap p.path.length cp) p.path) :=
                          HPR.out.frame (fun b hb => HBY.out.block b (by have := HP.out b hb; omega)) (fun b hb => .inl hb)
                        obtain ⟨qs, hq1, hq2, hq3⟩ := HVX.out
                        have HQ1 := Lib.hid hq1; have HQ2 := Lib.hid hq2; have HQ3 := Lib.hid hq3
                        have hsx := HBX.out.size
                        have hol2 : out.length ≤ 900000 := by omega
                        clear hq1 hq2 hq3
                        go_wp2_with (at_builtin; refine wpList_append_lies _ rfl (.tmp 111) (.tmp 113) 37 rfl w.heap.size 74 i0 (.agg #[.int .i64 0, .int .i64 0, .string ⟨#[]⟩, .slice none 0 0, .string ⟨#[]⟩, .int .i64 0, .slice none 0 0, .slice none 0 0]) 8 128 Tryd.underlying37 hi0 hz0 hz1 hz2 rfl (by decide) (.slice Ao out.length co) out.length _ rfl (HQ2.out.alloc _) ⟨WX.heap.size, 0, none⟩ 1 1 [.int .i64 3, .int .i64 p.pos, .string (bs p.text), .slice Ap p.path.length cp, .string (bs p.name), .int .i64 p.place, .slice A5 b1.out.length c5, .slice none 0 0] rfl rfl (World.news_of_block (heap_alloc_new WX _)) (by intro u hu; simp only [List.mem_cons, List.mem_nil_iff, or_false] at hu; rcases hu with rfl | rfl | rfl | rfl | rfl | rfl | rfl | rfl <;> rfl) (by decide) (by unfold maxLen; omega) (by omega) (by simp; omega) (WX.heap.size + 1) (by simp) ?_; intro gq capq wq hownq hgrowq hatq hltq; have HOQ := Lib.hid hownq; have HGQ := Lib.hid hgrowq; have HAQ := Lib.hid hatq; clear hownq hgrowq hatq)
                        have hfin := block_push (P := P) HP.out hsx rfl p (b1.out) ([]) _ _ _ R1.out R2.out R3.out qs HQ1.out (fun k hk => HQ2.out.lt k hk) HQ3.out (by have hoq := HOQ.out; rw [HKD.out] at hoq; exact hoq) HGQ.out HAQ.out
                        refine ⟨⟨b1.k + 1, F, out ++ [.mk p (b1.out) ([])], by go_num, by omega, by omega, by omega, HNXT.out, hfin.1, by rw [List.length_append, List.length_singleton]; omega, HBX.out.trans hfin.2⟩, by simp [intOf]; omega⟩
                    · have tk : decide ((b1.k : Int) < (n : Int)) = false := by rw [decide_eq_false_iff_not]; omega
                      have hkn : b1.k = n := by omega
                      have hr := HRX.out
                      rw [if_pos hkn] at hr
                      have HRf := Lib.hid hr
                      have tkn : ((b1.k : Int) == (n : Int)) = true := by rw [beq_iff_eq]; omega
                      clear hr hkn hk5
                      go_wp2_with fail
                      go_ret3
                      exact ⟨_, by rw [HRf.out]; rfl, by rw [HRf.out]; exact VRd.nil, HBX.out⟩
            · skip
              have HKD : Hid ((4 : Int) = p.kind) := HKD
              by_cases hd12 : d = 12
              · have hr := HR3.out
                rw [if_pos hd12] at hr
                have HRf := Lib.hid hr
                have td : ((d : Int) == 12) = true := by rw [beq_iff_eq]; omega
                clear hr hd12
                go_wp2_with fail
                go_ret3
                exact ⟨_, by rw [HRf.out]; rfl, by rw [HRf.out]; exact VRd.nil, HBWW.out⟩
              · have hr := HR3.out
                rw [if_neg hd12] at hr
                have HR4 := Lib.hid hr
                have td : ((d : Int) == 12) = false := by rw [beq_eq_false_iff_ne]; omega
                have hrg := block_range ps F (i + 1) (d + 1) (by rw [← Hn.out]; omega) (by rw [← Hn.out]; omega) (by omega)
                rw [HB1.out, ← Hn.out] at hrg
                have HRG := Lib.hid hrg
                have h37 := HI.out F ps (i + 1) (d + 1) P (.slice (some ⟨b, off, none⟩) n c) W (by omega) (H.out.below HBWW.out HP.out) (fun b hb => by have := HP.out b hb; omega) (by rw [← Hn.out]; exact hn) (by rw [← Hn.out]; omega) (by rw [← Hn.out]; omega) (by omega)
                rw [HB1.out, show ((i + 1 : Nat) : Int) = (i : Int) + 1 from by omega, show ((d + 1 : Nat) : Int) = (d : Int) + 1 from by omega] at h37
                have H37 := Lib.hid h37
                have hd13 : d + 1 ≤ 12 := by omega
                clear hr hrg h37 hd12
                go_upto_region 13 with (go_at_call 37; refine H37.out.mono ?_; rintro e w5 ⟨v5, rfl, hv5, hb5⟩; obtain ⟨A5, c5, rfl, _, _⟩ := id hv5; have HV5 := Lib.hid hv5; have HB5 := Lib.hid hb5; clear hv5 hb5)
                have hg5 := blk_below HG.out HB5.out hgW
                have HG5 := Lib.hid hg5
                have hs5 := HB5.out.size
                have HBW5 : Hid (Below w.heap.size w w5) := HBWW.out.trans (HB5.out.mono (by omega))
                clear hg5
                by_cases hbb : 0 ≤ b1.bad
                · have hr := HR4.out
                  rw [if_pos hbb] at hr
                  have HRf := Lib.hid hr
                  have tb : decide (b1.bad ≥ 0) = true := decide_eq_true hbb
                  clear hr hbb HR4
                  go_wp2_with fail
                  go_ret3
                  exact ⟨_, by rw [HRf.out]; rfl, by rw [HRf.out]; exact VRd.nil, HBW5.out⟩
                · have hr := HR4.out
                  rw [if_neg hbb] at hr
                  have HR5 := Lib.hid hr
                  have tb : decide (b1.bad ≥ 0) = false := by rw [decide_eq_false_iff_not]; exact hbb
                  obtain ⟨hk1, hk2, hk3⟩ := HRG.out.2 (by omega)
                  have HK3 := Lib.hid hk3
                  clear hr hbb HR4 HRG hk3
                  have q6 := blk_cell HG5.out 6
                  have qf6 := blk_frozen HG5.out 6
                  simp only [List.getElem?_cons_zero, List.getElem?_cons_succ] at q6
                  go_upto_region 16 with fail
                  have hgX : Blk (w5.setCell ⟨g, 6, none⟩ (.slice A5 b1.out.length c5)) g 74 [.int .i64 4, .int .i64 p.pos, .string (bs p.text), .slice Ap p.path.length cp, .string (bs p.name), .int .i64 p.place, .slice A5 b1.out.length c5, .slice none 0 0] := blk_set HG5.out 6 _
                  have hbX : Below w.heap.size w (w5.setCell ⟨g, 6, none⟩ (.slice A5 b1.out.length c5)) := HBW5.out.setCell hgw _
                  have hbY : Below wr.heap.size wr (w5.setCell ⟨g, 6, none⟩ (.slice A5 b1.out.length c5)) := (HBW.out.trans (HB5.out.mono (by omega))).setCell (by show wr.heap.size ≤ g; have := HGE2.out; omega) _
                  have hvk : VRd (w5.setCell ⟨g, 6, none⟩ (.slice A5 b1.out.length c5)) (QV P w.heap.size (w5.setCell ⟨g, 6, none⟩ (.slice A5 b1.out.length c5)) (.slice Ao out.length co)) (.slice A5 b1.out.length c5) b1.out := by
                    refine HV5.out.frame (fun b hb => Below.heap_setCell w5 ⟨g, 6, none⟩ _ b ?_) (fun b hb => QN.toV (by omega) (by simp) (fun k hk => by have := (HOWN.out k hk).2; omega) hb)
                    show b ≠ g
                    rcases hb with h | h
                    · have := HP.out b h; omega
                    · omega
                  have hv5x : VRd (w5.setCell ⟨g, 6, none⟩ (.slice A5 b1.out.length c5)) (QN P W.heap.size w5) (.slice A5 b1.out.length c5) b1.out := by
                    refine HV5.out.frame (fun b hb => Below.heap_setCell w5 ⟨g, 6, none⟩ _ b ?_) (fun b hb => hb)
                    show b ≠ g
                    rcases hb with h | h
                    · have := HP.out b h; omega
                    · omega
                  have hs5x : w5.heap.size ≤ (w5.setCell ⟨g, 6, none⟩ (.slice A5 b1.out.length c5)).heap.size := by simp
                  obtain ⟨WX, hWX⟩ : ∃ WX, WX = w5.setCell ⟨g, 6, none⟩ (.slice A5 b1.out.length c5) := ⟨_, rfl⟩
                  rw [← hWX] at hgX hbX hbY hvk hv5x hs5x ⊢
                  have HV5X := Lib.hid hv5x
                  clear hv5x
                  clear hWX q6 qf6
                  have HGX := Lib.hid hgX; have HBX := Lib.hid hbX; have HBY := Lib.hid hbY; have HVK := Lib.hid hvk
                  have hsX := hbY.size
                  have hvx : VOwn WX w.heap.size (QV P w.heap.size WX (.slice Ao out.length co)) (.slice Ao out.length co) out :=
                    HV.out.frame (fun k ek => hbY.block k (HV.out.own k ek).2) (fun b hb => hbY.block b (by rcases hb with h | h; have := HP.out b h; omega; exact h.2.1)) (fun b hb => QV.more (by omega) hb)
                  have HVX := Lib.hid hvx
                  clear hgX hbX hbY hvk hvx
                  by_cases hk5 : b1.k < n ∧ (pcAt ps b1.k).kind = 5
                  · have hr := HR5.out
                    rw [if_pos hk5] at hr
                    have HR6 := Lib.hid hr
                    obtain ⟨hkn, hkk⟩ := hk5
                    have tk : decide ((b1.k : Int) < (n : Int)) = true := by rw [decide_eq_true_eq]; omega
                    have j0 : WX.cell? ⟨b, off + b1.k * 6, none⟩ = some (.int .i64 (pcAt ps b1.k).kind) := by
                      obtain ⟨b', off', A', c', he, _, hc', _⟩ := (H.out.below HBX.out HP.out).cells Hn.out b1.k (by omega)
                      cases he
                      exact hc' 0 (by decide)
                    rw [hkk] at j0
                    have j1 : WX.cell? ⟨b, off + i * 6, none⟩ = some (.int .i64 (pcAt ps i).kind) := by
                      obtain ⟨b', off', A', c', he, _, hc', _⟩ := (H.out.below HBX.out HP.out).cells Hn.out i (by omega)
                      cases he
                      exact hc' 0 (by decide)
                    rw [HPP.out, ← HKD.out] at j1
                    have hjb : b < WX.heap.size := by omega
                    clear hr hkk HR5
                    have hr := HR6.out
                    rw [if_neg (by rw [← HKD.out]; decide)] at hr
                    have HR7 := Lib.hid hr
                    have hrg := block_range ps F (b1.k + 1) (d + 1) (by rw [← Hn.out]; omega) (by rw [← Hn.out]; omega) (by omega)
                    rw [HC1.out, ← Hn.out] at hrg
                    have HRG := Lib.hid hrg
                    have h37 := HI.out F ps (b1.k + 1) (d + 1) P (.slice (some ⟨b, off, none⟩) n c) WX (by omega) (H.out.below HBX.out HP.out) (fun b hb => by have := HP.out b hb; omega) (by rw [← Hn.out]; exact hn) (by rw [← Hn.out]; omega) (by rw [← Hn.out]; omega) (by omega)
                    rw [HC1.out, show ((b1.k + 1 : Nat) : Int) = (b1.k : Int) + 1 from by omega, show ((d + 1 : Nat) : Int) = (d : Int) + 1 from by omega] at h37
                    have H37b := Lib.hid h37
                    clear hr hrg h37 HR6
                    go_upto_region 20 with (go_at_call 37; refine H37b.out.mono ?_; rintro e w6 ⟨v6, rfl, hv6, hb6⟩; obtain ⟨A6, c6, rfl, _, _⟩ := id hv6; have HV6 := Lib.hid hv6; have HB6 := Lib.hid hb6; clear hv6 hb6)
                    have hgXl : g < WX.heap.size := by omega
                    have hg6 := blk_below HGX.out HB6.out hgXl
                    have HG6 := Lib.hid hg6
                    have hs6 := HB6.out.size
                    have HBW6 : Hid (Below w.heap.size w w6) := HBX.out.trans (HB6.out.mono (by omega))
                    clear hg6 j0 j1
                    by_cases hcb : 0 ≤ c1.bad
                    · have hr := HR7.out
                      rw [if_pos hcb] at hr
                      have HRf := Lib.hid hr
                      have tb2 : decide (c1.bad ≥ 0) = true := decide_eq_true hcb
                      clear hr hcb HR7
                      go_wp2_with fail
                      go_ret3
                      exact ⟨_, by rw [HRf.out]; rfl, by rw [HRf.out]; exact VRd.nil, HBW6.out⟩
                    · have hr := HR7.out
                      rw [if_neg hcb] at hr
                      have HR8 := Lib.hid hr
                      have tb2 : decide (c1.bad ≥ 0) = false := by rw [decide_eq_false_iff_not]; exact hcb
                      obtain ⟨hm1, hm2, hm3⟩ := HRG.out.2 (by omega)
                      have HM3 := Lib.hid hm3
                      clear hr hcb HR7 HRG hm3
                      by_cases hc5 : c1.k < n ∧ (pcAt ps c1.k).kind = 5
                      · have hr := HR8.out
                        rw [if_pos hc5] at hr
                        have HRf := Lib.hid hr
                        obtain ⟨hcn, hck⟩ := hc5
                        have tk2 : decide ((c1.k : Int) < (n : Int)) = true := by rw [decide_eq_true_eq]; omega
                        have j2 : w6.cell? ⟨b, off + c1.k * 6, none⟩ = some (.int .i64 (pcAt ps c1.k).kind) := by
                          obtain ⟨b', off', A', c', he, _, hc', _⟩ := (H.out.below HBW6.out HP.out).cells Hn.out c1.k (by omega)
                          cases he
                          exact hc' 0 (by decide)
                        rw [hck] at j2
                        clear hr hck HR8
                        go_wp2_with fail
                        go_ret3
                        exact ⟨_, by rw [HRf.out]; rfl, by rw [HRf.out]; exact VRd.nil, HBW6.out⟩
                      · have hr := HR8.out
                        rw [if_neg hc5] at hr
                        have HRX := Lib.hid hr
                        clear hr HR8
                        have q7 := blk_cell HG6.out 7
                        have qf7 := blk_frozen HG6.out 7
                        simp only [List.getElem?_cons_zero, List.getElem?_cons_succ] at q7
                        have hgZ : Blk (w6.setCell ⟨g, 7, none⟩ (.slice A6 c1.out.length c6)) g 74 [.int .i64 4, .int .i64 p.pos, .string (bs p.text), .slice Ap p.path.length cp, .string (bs p.name), .int .i64 p.place, .slice A5 b1.out.length c5, .slice A6 c1.out.length c6] := blk_set HG6.out 7 _
                        have hbZ : Below w.heap.size w (w6.setCell ⟨g, 7, none⟩ (.slice A6 c1.out.length c6)) := HBW6.out.setCell hgw _
                        have hbV : Below wr.heap.size wr (w6.setCell ⟨g, 7, none⟩ (.slice A6 c1.out.length c6)) := (HBY.out.trans (HB6.out.mono (by omega))).setCell (by show wr.heap.size ≤ g; have := HGE2.out; omega) _
                        have hvo : VRd (w6.setCell ⟨g, 7, none⟩ (.slice A6 c1.out.length c6)) (QV P w.heap.size (w6.setCell ⟨g, 7, none⟩ (.slice A6 c1.out.length c6)) (.slice Ao out.length co)) (.slice A6 c1.out.length c6) c1.out := by
                          refine HV6.out.frame (fun b hb => Below.heap_setCell w6 ⟨g, 7, none⟩ _ b ?_) (fun b hb => QN.toV (by omega) (by simp) (fun k hk => by have := (HOWN.out k hk).2; omega) hb)
                          show b ≠ g
                          rcases hb with h | h
                          · have := HP.out b h; omega
                          · omega
                        have hvk2 : VRd (w6.setCell ⟨g, 7, none⟩ (.slice A6 c1.out.length c6)) (QV P w.heap.size (w6.setCell ⟨g, 7, none⟩ (.slice A6 c1.out.length c6)) (.slice Ao out.length co)) (.slice A5 b1.out.length c5) b1.out := by
                          refine HV5X.out.frame (fun b hb => (Below.heap_setCell w6 ⟨g, 7, none⟩ _ b ?_).trans (HB6.out.block b ?_)) (fun b hb => QN.toV (by omega) (by simp; omega) (fun k hk => by have := (HOWN.out k hk).2; omega) hb)
                          · show b ≠ g
                            rcases hb with h | h
                            · have := HP.out b h; omega
                            · omega
                          · rcases hb with h | h
                            · have := HP.out b h; omega
                            · omega
                        obtain ⟨WZ, hWZ⟩ : ∃ WZ, WZ = w6.setCell ⟨g, 7, none⟩ (.slice A6 c1.out.length c6) := ⟨_, rfl⟩
                        have HFIN : True := trivial
                        by_cases hcn : c1.k < n
                        · have hk6 : (pcAt ps c1.k).kind = 6 := (HM3.out hcn).resolve_left (fun h => hc5 ⟨hcn, h⟩)
                          have tk2 : decide ((c1.k : Int) < (n : Int)) = true := by rw [decide_eq_true_eq]; omega
                          have j2 : w6.cell? ⟨b, off + c1.k * 6, none⟩ = some (.int .i64 (pcAt ps c1.k).kind) := by
                            obtain ⟨b', off', A', c', he, _, hc', _⟩ := (H.out.below HBW6.out HP.out).cells Hn.out c1.k (by omega)
                            cases he
                            exact hc' 0 (by decide)
                          rw [hk6] at j2
                          clear hc5 hk6
                          go_upto_region 26 with fail
                          rw [← hWZ] at hgZ hbZ hbV hvo hvk2 ⊢
                          clear hWZ q7 qf7 j2
                          have HGX := Lib.hid hgZ; have HBX := Lib.hid hbZ; have HBY := Lib.hid hbV; have R2 := Lib.hid hvk2; have R3 := Lib.hid hvo
                          have hsZ := hbV.size
                          have hvx : VOwn WZ w.heap.size (QV P w.heap.size WZ (.slice Ao out.length co)) (.slice Ao out.length co) out :=
                            HV.out.frame (fun k ek => hbV.block k (HV.out.own k ek).2) (fun b hb => hbV.block b (by rcases hb with h | h; have := HP.out b h; omega; exact h.2.1)) (fun b hb => QV.more (by omega) hb)
                          have HVX := Lib.hid hvx
                          clear hgZ hbZ hbV hvo hvk2 hvx
                          by_cases hkn : c1.k = n
                          · have hr := HRX.out
                            rw [if_pos hkn] at hr
                            have HRf := Lib.hid hr
                            have tkn : ((c1.k : Int) == (n : Int)) = true := by rw [beq_iff_eq]; omega
                            clear hr hkn
                            go_wp2_with fail
                            go_ret3
                            exact ⟨_, by rw [HRf.out]; rfl, by rw [HRf.out]; exact VRd.nil, HBX.out⟩
                          · have hr := HRX.out
                            rw [if_neg hkn] at hr
                            have HNXT := Lib.hid hr
                            have tkn : ((c1.k : Int) == (n : Int)) = false := by rw [beq_eq_false_iff_ne]; omega
                            have hkl : c1.k < n := by omega
                            clear hr hkn HRX
                            have d0 := blk_cell HGX.out 0; have d1 := blk_cell HGX.out 1; have d2 := blk_cell HGX.out 2; have d3 := blk_cell HGX.out 3; have d4 := blk_cell HGX.out 4; have d5 := blk_cell HGX.out 5; have d6 := blk_cell HGX.out 6; have d7 := blk_cell HGX.out 7
                            simp only [List.getElem?_cons_zero, List.getElem?_cons_succ] at d0 d1 d2 d3 d4 d5 d6 d7
                            have R1 : Hid (PathRd WZ (QV P w.heap.size WZ (.slice Ao out.length co)) (.slice Ap p.path.length cp) p.path) :=
                              HPR.out.frame (fun b hb => HBY.out.block b (by have := HP.out b hb; omega)) (fun b hb => .inl hb)
                            obtain ⟨qs, hq1, hq2, hq3⟩ := HVX.out
                            have HQ1 := Lib.hid hq1; have HQ2 := Lib.hid hq2; have HQ3 := Lib.hid hq3
                            have hsx := HBX.out.size
                            have hol2 : out.length ≤ 900000 := by omega
                            clear hq1 hq2 hq3
                            go_wp2_with (at_builtin; refine wpList_append_lies _ rfl (.tmp 111) (.tmp 113) 37 rfl w.heap.size 74 i0 (.agg #[.int .i64 0, .int .i64 0, .string ⟨#[]⟩, .slice none 0 0, .string ⟨#[]⟩, .int .i64 0, .slice none 0 0, .slice none 0 0]) 8 128 Tryd.underlying37 hi0 hz0 hz1 hz2 rfl (by decide) (.slice Ao out.length co) out.length _ rfl (HQ2.out.alloc _) ⟨WZ.heap.size, 0, none⟩ 1 1 [.int .i64 4, .int .i64 p.pos, .string (bs p.text), .slice Ap p.path.length cp, .string (bs p.name), .int .i64 p.place, .slice A5 b1.out.length c5, .slice A6 c1.out.length c6] rfl rfl (World.news_of_block (heap_alloc_new WZ _)) (by intro u hu; simp only [List.mem_cons, List.mem_nil_iff, or_false] at hu; rcases hu with rfl | rfl | rfl | rfl | rfl | rfl | rfl | rfl <;> rfl) (by decide) (by unfold maxLen; omega) (by omega) (by simp; omega) (WZ.heap.size + 1) (by simp) ?_; intro gq capq wq hownq hgrowq hatq hltq; have HOQ := Lib.hid hownq; have HGQ := Lib.hid hgrowq; have HAQ := Lib.hid hatq; clear hownq hgrowq hatq)
                            have hfin := block_push (P := P) HP.out hsx rfl p (b1.out) (c1.out) _ _ _ R1.out R2.out R3.out qs HQ1.out (fun k hk => HQ2.out.lt k hk) HQ3.out (by have hoq := HOQ.out; rw [HKD.out] at hoq; exact hoq) HGQ.out HAQ.out
                            refine ⟨⟨c1.k + 1, F, out ++ [.mk p (b1.out) (c1.out)], by go_num, by omega, by omega, by omega, HNXT.out, hfin.1, by rw [List.length_append, List.length_singleton]; omega, HBX.out.trans hfin.2⟩, by simp [intOf]; omega⟩
                        · have tk2 : decide ((c1.k : Int) < (n : Int)) = false := by rw [decide_eq_false_iff_not]; omega
                          clear hc5
                          go_upto_region 26 with fail
                          rw [← hWZ] at hgZ hbZ hbV hvo hvk2 ⊢
                          clear hWZ q7 qf7
                          have HGX := Lib.hid hgZ; have HBX := Lib.hid hbZ; have HBY := Lib.hid hbV; have R2 := Lib.hid hvk2; have R3 := Lib.hid hvo
                          have hsZ := hbV.size
                          clear hgZ hbZ hbV hvo hvk2
                          have hkn : c1.k = n := by omega
                          have hr := HRX.out
                          rw [if_pos hkn] at hr
                          have HRf := Lib.hid hr
                          have tkn : ((c1.k : Int) == (n : Int)) = true := by rw [beq_iff_eq]; omega
                          clear hr hkn
                          go_wp2_with fail
                          go_ret3
                          exact ⟨_, by rw [HRf.out]; rfl, by rw [HRf.out]; exact VRd.nil, HBX.out⟩
                  · have hr := HR5.out
                    rw [if_neg hk5] at hr
                    have HRX := Lib.hid hr
                    have R2 := HVK
                    have R3 : Hid (VRd WX (QV P w.heap.size WX (.slice Ao out.length co)) (.slice none 0 0) []) := VRd.nil
                    clear hr HR5
                    by_cases hbn : b1.k < n
                    · have hk6 : (pcAt ps b1.k).kind = 6 := (HK3.out hbn).resolve_left (fun h => hk5 ⟨hbn, h⟩)
                      have tk : decide ((b1.k : Int) < (n : Int)) = true := by rw [decide_eq_true_eq]; omega
                      have j0 : WX.cell? ⟨b, off + b1.k * 6, none⟩ = some (.int .i64 (pcAt ps b1.k).kind) := by
                        obtain ⟨b', off', A', c', he, _, hc', _⟩ := (H.out.below HBX.out HP.out).cells Hn.out b1.k (by omega)
                        cases he
                        exact hc' 0 (by decide)
                      rw [hk6] at j0
                      have hjb : b < WX.heap.size := by omega
                      clear hk5 hk6
                      go_upto_region 26 with fail
                      clear j0
                      by_cases hkn : b1.k = n
                      · have hr := HRX.out
                        rw [if_pos hkn] at hr
                        have HRf := Lib.hid hr
                        have tkn : ((b1.k : Int) == (n : Int)) = true := by rw [beq_iff_eq]; omega
                        clear hr hkn
                        go_wp2_with fail
                        go_ret3
                        exact ⟨_, by rw [HRf.out]; rfl, by rw [HRf.out]; exact VRd.nil, HBX.out⟩
                      · have hr := HRX.out
                        rw [if_neg hkn] at hr
                        have HNXT := Lib.hid hr
                        have tkn : ((b1.k : Int) == (n : Int)) = false := by rw [beq_eq_false_iff_ne]; omega
                        have hkl : b1.k < n := by omega
                        clear hr hkn HRX
                        have d0 := blk_cell HGX.out 0; have d1 := blk_cell HGX.out 1; have d2 := blk_cell HGX.out 2; have d3 := blk_cell HGX.out 3; have d4 := blk_cell HGX.out 4; have d5 := blk_cell HGX.out 5; have d6 := blk_cell HGX.out 6; have d7 := blk_cell HGX.out 7
                        simp only [List.getElem?_cons_zero, List.getElem?_cons_succ] at d0 d1 d2 d3 d4 d5 d6 d7
                        have R1 : Hid (PathRd WX (QV P w.heap.size WX (.slice Ao out.length co)) (.slice Ap p.path.length cp) p.path) :=
                          HPR.out.frame (fun b hb => HBY.out.block b (by have := HP.out b hb; omega)) (fun b hb => .inl hb)
                        obtain ⟨qs, hq1, hq2, hq3⟩ := HVX.out
                        have HQ1 := Lib.hid hq1; have HQ2 := Lib.hid hq2; have HQ3 := Lib.hid hq3
                        have hsx := HBX.out.size
                        have hol2 : out.length ≤ 900000 := by omega
                        clear hq1 hq2 hq3
                        go_wp2_with (at_builtin; refine wpList_append_lies _ rfl (.tmp 111) (.tmp 113) 37 rfl w.heap.size 74 i0 (.agg #[.int .i64 0, .int .i64 0, .string ⟨#[]⟩, .slice none 0 0, .string ⟨#[]⟩, .int .i64 0, .slice none 0 0, .slice none 0 0]) 8 128 Tryd.underlying37 hi0 hz0 hz1 hz2 rfl (by decide) (.slice Ao out.length co) out.length _ rfl (HQ2.out.alloc _) ⟨WX.heap.size, 0, none⟩ 1 1 [.int .i64 4, .int .i64 p.pos, .string (bs p.text), .slice Ap p.path.length cp, .string (bs p.name), .int .i64 p.place, .slice A5 b1.out.length c5, .slice none 0 0] rfl rfl (World.news_of_block (heap_alloc_new WX _)) (by intro u hu; simp only [List.mem_cons, List.mem_nil_iff, or_false] at hu; rcases hu with rfl | rfl | rfl | rfl | rfl | rfl | rfl | rfl <;> rfl) (by decide) (by unfold maxLen; omega) (by omega) (by simp; omega) (WX.heap.size + 1) (by simp) ?_; intro gq capq wq hownq hgrowq hatq hltq; have HOQ := Lib.hid hownq; have HGQ := Lib.hid hgrowq; have HAQ := Lib.hid hatq; clear hownq hgrowq hatq)
                        have hfin := block_push (P := P) HP.out hsx rfl p (b1.out) ([]) _ _ _ R1.out R2.out R3.out qs HQ1.out (fun k hk => HQ2.out.lt k hk) HQ3.out (by have hoq := HOQ.out; rw [HKD.out] at hoq; exact hoq) HGQ.out HAQ.out
                        refine ⟨⟨b1.k + 1, F, out ++ [.mk p (b1.out) ([])], by go_num, by omega, by omega, by omega, HNXT.out, hfin.1, by rw [List.length_append, List.length_singleton]; omega, HBX.out.trans hfin.2⟩, by simp [intOf]; omega⟩
                    · have tk : decide ((b1.k : Int) < (n : Int)) = false := by rw [decide_eq_false_iff_not]; omega
                      have hkn : b1.k = n := by omega
                      have hr := HRX.out
                      rw [if_pos hkn] at hr
                      have HRf := Lib.hid hr
                      have tkn : ((b1.k : Int) == (n : Int)) = true := by rw [beq_iff_eq]; omega
                      clear hr hkn hk5
                      go_wp2_with fail
                      go_ret3
                      exact ⟨_, by rw [HRf.out]; rfl, by rw [HRf.out]; exact VRd.nil, HBX.out⟩
          · have hr := HR2.out
            rw [if_neg (by rw [← HKD.out]; intro h; exact h34 (blockK_not h).2.2)] at hr
            have HNXT := Lib.hid hr
            clear hr
            have k3 : (kd == 3) = false := by rw [beq_eq_false_iff_ne]; exact fun h => h34 (.inl h)
            have k4 : (kd == 4) = false := by rw [beq_eq_false_iff_ne]; exact fun h => h34 (.inr h)
            have k5 : (kd == 5) = false := by rw [beq_eq_false_iff_ne]; exact fun h => h56 (.inl h)
            have k6 : (kd == 6) = false := by rw [beq_eq_false_iff_ne]; exact fun h => h56 (.inr h)
            have d0 := blk_cell HG.out 0; have d1 := blk_cell HG.out 1; have d2 := blk_cell HG.out 2; have d3 := blk_cell HG.out 3; have d4 := blk_cell HG.out 4; have d5 := blk_cell HG.out 5; have d6 := blk_cell HG.out 6; have d7 := blk_cell HG.out 7
            simp only [List.getElem?_cons_zero, List.getElem?_cons_succ] at d0 d1 d2 d3 d4 d5 d6 d7
            have HBX := HBWW; have HVX := HVW; have R1 := HR1W
            have R2 : Hid (VRd W (QV P w.heap.size W (.slice Ao out.length co)) (.slice none 0 0) []) := VRd.nil
            have R3 := R2
            clear h34 h56
            obtain ⟨qs, hq1, hq2, hq3⟩ := HVX.out
            have HQ1 := Lib.hid hq1; have HQ2 := Lib.hid hq2; have HQ3 := Lib.hid hq3
            have hsx := HBX.out.size
            have hol2 : out.length ≤ 900000 := by omega
            clear hq1 hq2 hq3
            go_wp2_with (at_builtin; refine wpList_append_lies _ rfl (.tmp 111) (.tmp 113) 37 rfl w.heap.size 74 i0 (.agg #[.int .i64 0, .int .i64 0, .string ⟨#[]⟩, .slice none 0 0, .string ⟨#[]⟩, .int .i64 0, .slice none 0 0, .slice none 0 0]) 8 128 Tryd.underlying37 hi0 hz0 hz1 hz2 rfl (by decide) (.slice Ao out.length co) out.length _ rfl (HQ2.out.alloc _) ⟨W.heap.size, 0, none⟩ 1 1 [.int .i64 kd, .int .i64 p.pos, .string (bs p.text), .slice Ap p.path.length cp, .string (bs p.name), .int .i64 p.place, .slice none 0 0, .slice none 0 0] rfl rfl (World.news_of_block (heap_alloc_new W _)) (by intro u hu; simp only [List.mem_cons, List.mem_nil_iff, or_false] at hu; rcases hu with rfl | rfl | rfl | rfl | rfl | rfl | rfl | rfl <;> rfl) (by decide) (by unfold maxLen; omega) (by omega) (by simp; omega) (W.heap.size + 1) (by simp) ?_; intro gq capq wq hownq hgrowq hatq hltq; have HOQ := Lib.hid hownq; have HGQ := Lib.hid hgrowq; have HAQ := Lib.hid hatq; clear hownq hgrowq hatq)
            have hfin := block_push (P := P) HP.out hsx rfl p ([]) ([]) _ _ _ R1.out R2.out R3.out qs HQ1.out (fun k hk => HQ2.out.lt k hk) HQ3.out (by have hoq := HOQ.out; rw [HKD.out] at hoq; exact hoq) HGQ.out HAQ.out
            refine ⟨⟨i + 1, F, out ++ [.mk p ([]) ([])], by go_num, by omega, by omega, by omega, HNXT.out, hfin.1, by rw [List.length_append, List.length_singleton]; omega, HBX.out.trans hfin.2⟩, by simp [intOf]; omega⟩
      · obtain rfl : i = n := by omega
        have ti : decide ((i : Int) < (i : Int)) = false := by rw [decide_eq_false_iff_not]; omega
        obtain ⟨F, rfl⟩ : ∃ F', F = F' + 1 := ⟨F - 1, by omega⟩
        rw [blockL, if_neg (by rw [← Hn.out]; omega)] at hR
        have HRf := Lib.hid hR
        clear hR hv hbr HRi
        go_wp2_with fail
        go_ret3
        refine ⟨_, by rw [HRf.out]; rfl, ?_, HBR.out⟩
        rw [HRf.out]
        exact HV.out.read (fun k ek => .inr (HV.out.own k ek)) (fun b hb => hb.imp id (fun h => ⟨h.1, h.2.1⟩))
end Go.Proofs.YthilkpjdfjjikaaDoor
