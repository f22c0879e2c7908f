/-
  tree.Nest, walked.
-/
import Derived.OwnWalk
import Derived.Test.YthilkpjdfjjikaaDoorTrdM
import Derived.Test.YthilkpjdfjjikaaDoorNtbM
set_option linter.unusedVariables false
set_option linter.unusedSimpArgs false
namespace Go.Proofs.YthilkpjdfjjikaaDoor
open Go.RowKit
attribute [local go_sem ↓] Go.wp_at_zero Go.wp_at_succ

def frTot (f : Fr) : Nat := f.kids.length + f.other.length + 1
def NSt.tot (s : NSt) : Nat := s.out.length + (s.st.map frTot).sum
theorem tot_cur (s : NSt) : s.cur.length ≤ s.tot := by
  unfold NSt.cur NSt.tot
  split
  · omega
  · rename_i f r h
    rw [h, List.map_cons, List.sum_cons]
    unfold frTot
    split <;> omega
theorem tot_len : ∀ (l : List Fr), l.length ≤ (l.map frTot).sum
  | [] => Nat.le_refl _
  | f :: r => by
    have := tot_len r
    rw [List.map_cons, List.sum_cons, List.length_cons]
    unfold frTot at *
    omega
theorem tot_set (s : NSt) (l : List Part) : (s.set l).tot + s.cur.length = s.tot + l.length := by
  obtain ⟨out, st⟩ := s
  cases st with
  | nil => simp [NSt.set, NSt.tot, NSt.cur]; omega
  | cons f r =>
    obtain ⟨p, k, o, b⟩ := f
    cases b <;> simp [NSt.set, NSt.tot, NSt.cur, frTot] <;> omega
theorem tot_put (s : NSt) (q : Part) : (putS s q).tot = s.tot + 1 := by
  have := tot_set s (s.cur ++ [q])
  unfold putS
  rw [List.length_append, List.length_singleton] at this
  omega
theorem tot_take (s s' : NSt) (p : Pc) (h : takeS s p = some s') : s'.tot ≤ s.tot + 1 := by
  unfold takeS at h
  split at h
  · split at h
    · cases h
    · injection h with h; rw [← h]; simp [NSt.tot, frTot]; omega
  · split at h
    · split at h
      · cases h
      · rename_i f r hst
        split at h
        · cases h
        · injection h with h; rw [← h]; unfold NSt.tot; rw [hst]; simp [frTot]
    · split at h
      · split at h
        · cases h
        · rename_i f r hst
          injection h with h
          rw [← h, tot_put]
          unfold NSt.tot
          rw [hst]
          simp only [List.map_cons, List.sum_cons]
          have : 1 ≤ frTot f := by unfold frTot; omega
          omega
      · injection h with h; rw [← h, tot_put]; exact Nat.le_refl _
theorem take_any (w : World) (B N : Nat) (outV openV : Value) (fs : List FrM) (out : List Part) (h : NI w B N outV openV fs out) (hB : B ≤ w.heap.size) (ht : (stOf out fs).tot ≤ 1000000) (p : Pc) (Av : Option Addr) (cv : Nat)
    (r1 : PathRd w (PN w (fbN N outV openV fs)) (.slice Av p.path.length cv) p.path) :
    Calls Tryd.prog 36 #[.pointer (some ⟨N, 0, none⟩), .agg #[.int .i64 p.kind, .int .i64 p.pos, .string (bs p.text), .slice Av p.path.length cv, .string (bs p.name), .int .i64 p.place]] w (TakePost w B N (takeS (stOf out fs) p)) := by
  have hl : (stOf out fs).cur.length ≤ 1000000 := Nat.le_trans (tot_cur _) ht
  have hf : fs.length ≤ 1000000 := by
    have h1 := tot_len (fs.map (·.fr))
    rw [List.length_map] at h1
    unfold NSt.tot stOf at ht
    dsimp only at ht
    omega
  have hl2 : (stOf out (fs.drop 1)).cur.length ≤ 1000000 := by
    refine Nat.le_trans (tot_cur _) (Nat.le_trans ?_ ht)
    cases fs with
    | nil => exact Nat.le_refl _
    | cons x r => unfold NSt.tot stOf; simp
  by_cases h3 : p.kind = 3
  · exact take_blk w B N outV openV fs out h hB p Av cv r1 (.inl h3) hf
  · by_cases h4 : p.kind = 4
    · exact take_blk w B N outV openV fs out h hB p Av cv r1 (.inr h4) hf
    · by_cases h5 : p.kind = 5
      · exact take_else w B N outV openV fs out h hB p Av cv h5
      · by_cases h6 : p.kind = 6
        · exact take_end w B N outV openV fs out h hB hl2 hf p Av cv h6
        · exact take_def w B N outV openV fs out h hB hl p Av cv r1 ⟨h3, h4, h5, h6⟩
theorem info9 : (Tryd.prog.info? 9).map (fun i => (i.zero, i.size, i.bytes)) = some (some (.string ⟨#[]⟩), 1, 16) := by kernel_rfl
theorem PathRd.rd {w : World} {P : Nat → Prop} {A : Option Addr} {c B : Nat} {l : List Bs} (h : PathRd w P (.slice A l.length c) l) (hP : ∀ b, P b → b < B) : Rd w B 1 A l.length (strs l) := by
  obtain ⟨A', c', e, _, h3⟩ := h
  injection e with e1 e2 e3
  subst e1
  refine ⟨by simp [strs], fun hn => ?_⟩
  rcases h3 with rfl | ⟨b, o, h4, h5, h6⟩
  · simp at hn
  · exact ⟨b, o, h4, hP b h5, fun j hj => h6 j (by omega)⟩
theorem own_path {w : World} {B cap : Nat} {A : Option Addr} {l : List Bs} {P : Nat → Prop} (h : w.ownsRow B 9 1 (.slice A l.length cap) l.length (strs l)) (hP : ∀ k, B ≤ k → k < w.heap.size → P k) : PathRd w P (.slice A l.length cap) l := by
  obtain ⟨A', c', e, hc, _⟩ := own_form h
  injection e with e1 _ e2
  subst e1 e2
  refine ⟨_, _, rfl, hc, ?_⟩
  by_cases hn : l = []
  · exact .inl hn
  · obtain ⟨g, rfl, h1, h2⟩ := own_some h (List.length_pos_iff.2 hn)
    exact .inr ⟨g, 0, rfl, hP g h1 h2, fun j hj => by rw [Nat.zero_add]; exact h.cellAt j (by omega)⟩
theorem nestFrom_at (size : Int) (l : List Pc) (j : Nat) (s : NSt) (h : j < l.length) : nestFrom size (l.drop j) s = match takeS s (pcAt l j) with | none => ⟨[], (pcAt l j).pos, 180⟩ | some s' => nestFrom size (l.drop (j + 1)) s' := by
  rw [drop_at l j h, nestFrom]
  cases takeS s (pcAt l j) <;> rfl
set_option maxHeartbeats 8000000 in
set_option maxRecDepth 100000 in
theorem nest_any (ps : List Pc) (size : Int) (P : Nat → Prop) (v : Value) (w : World) (h : PcsRd w P v ps) (hP : ∀ b, P b → b < w.heap.size) (hn : ps.length ≤ 900000) (hpth : ∀ p ∈ ps, p.path.length ≤ 8796093022208) :
    Calls Tryd.prog 19 #[v, .int .i64 size] w fun e w' => ∃ v', e = .returned (.tuple #[v', .int .i64 (nestL ps size).pos, .int .i64 (nestL ps size).err]) ∧ VRd w' (fun b => b < w'.heap.size) v' (nestL ps size).out ∧ Below w.heap.size w w' := by
  have hrd := h
  obtain ⟨A, c, rfl, hc, _⟩ := h
  have HP := Lib.hid hP; have HPT := Lib.hid hpth
  obtain ⟨R, hR⟩ : ∃ R, R = nestL ps size := ⟨_, rfl⟩
  rw [← hR]
  have HR := Lib.hid hR
  obtain ⟨n, hne⟩ : ∃ n, n = ps.length := ⟨_, rfl⟩
  rw [← hne] at hn hc hrd ⊢
  have Hn := Lib.hid hne; have H := Lib.hid hrd
  clear hP hpth hR hne hrd
  go_enter Tryd.func19, Tryd.ntmps19
  go_wp2_with fail
  obtain ⟨N, hN⟩ : ∃ N, N = w.heap.size := ⟨_, rfl⟩
  have HN := Lib.hid hN
  rw [← hN]
  have hNI0 : NI (w.alloc (.cells #[.slice none 0 0, .slice none 0 0] 78)) N N (.slice none 0 0) (.slice none 0 0) [] [] := by
    refine ⟨by simp [fbN, ownL, Value.ownBlock], fun k hk => ?_, ?_, VOwn.nil, World.ownsRow_nil _ _ _ _, fun x hx => by simp at hx⟩
    · obtain rfl : k = N := by simpa [fbN, ownL, Value.ownBlock] using hk
      exact ⟨Nat.le_refl _, by rw [hN]; simp⟩
    · rw [hN]; exact blk_new w 78 _
  have HNI0 := Lib.hid hNI0
  have hB0 : Below N w (w.alloc (.cells #[.slice none 0 0, .slice none 0 0] 78)) := (Below.refl _ w).alloc (Nat.le_of_eq hN) _
  clear hNI0 hN
  go_loopw [14] (fun i wr => ∃ (j : Nat) (outV openV : Value) (fs : List FrM) (out : List Part), i = .int .i64 (j : Int) ∧ j ≤ n ∧ NI wr N N outV openV fs out ∧ (stOf out fs).tot ≤ j ∧ R = nestFrom size (ps.drop j) (stOf out fs) ∧ Below N w wr) (fun i _ => n - (intOf i).toNat)
  case atStart => exact ⟨0, _, _, [], [], rfl, Nat.zero_le _, HNI0.out, Nat.le_refl _, by rw [HR.out]; rfl, hB0⟩
  case round =>
    obtain ⟨j, outV, openV, fs, out, rfl, hj, hNI, htot, hR, hbr⟩ := hrel
    have hNl : N < wr.heap.size := blk_lt hNI.blk
    have hNw : w.heap.size ≤ N := Nat.le_of_eq HN.out.symm
    have HNI := Lib.hid hNI; have HRj := Lib.hid hR; have HBR := Lib.hid hbr
    by_cases hjn : j < n
    · have tj : decide ((j : Int) < (n : Int)) = true := by rw [decide_eq_true_eq]; omega
      have hat := nestFrom_at size ps j (stOf out fs) (by rw [← Hn.out]; exact hjn)
      obtain ⟨b, off, Ap, cp, rfl, hPb, hcell, hpl, hprd⟩ := (H.out.below (hbr.mono hNw) HP.out).cells Hn.out j hjn
      have hpm : pcAt ps j ∈ ps := by unfold pcAt; rw [List.getD_eq_getElem?_getD, List.getElem?_eq_getElem (by rw [← Hn.out]; exact hjn)]; exact List.getElem_mem _
      have hpb := HPT.out _ hpm
      obtain ⟨p, hp⟩ : ∃ p, p = pcAt ps j := ⟨_, rfl⟩
      rw [← hp] at hat hcell hpl hprd hpb
      rw [hR.symm] at hat
      have HAT := Lib.hid hat
      have e0 := hcell 0 (by decide); have e1 := hcell 1 (by decide); have e2 := hcell 2 (by decide); have e3 := hcell 3 (by decide); have e4 := hcell 4 (by decide); have e5 := hcell 5 (by decide)
      simp only [pcc, List.getElem?_cons_zero, List.getElem?_cons_succ, Nat.add_zero] at e0 e1 e2 e3 e4 e5
      have hbl : b < wr.heap.size := by have := HP.out b hPb; omega
      have hprw : ∀ W, Below wr.heap.size wr W → Rd W wr.heap.size 1 Ap p.path.length (strs p.path) := fun W hb => ((hprd.below hb (fun b h => by have := HP.out b h; omega)).rd (fun b h => by have := HP.out b h; omega))
      have HPR := Lib.hid hprw
      clear hcell hat hR hbr hNI hp hpm hprd hprw hPb
      have hg := blk_new wr 35 #[.int .i64 p.kind, .int .i64 p.pos, .string (bs p.text), .slice Ap p.path.length cp, .string (bs p.name), .int .i64 p.place]
      go_upto_region 5 with fail
      have hb1 : Below wr.heap.size wr (wr.alloc (.cells #[.int .i64 p.kind, .int .i64 p.pos, .string (bs p.text), .slice Ap p.path.length cp, .string (bs p.name), .int .i64 p.place] 35)) := (Below.refl _ wr).alloc (Nat.le_refl _) _
      obtain ⟨W, hW⟩ : ∃ W, W = wr.alloc (.cells #[.int .i64 p.kind, .int .i64 p.pos, .string (bs p.text), .slice Ap p.path.length cp, .string (bs p.name), .int .i64 p.place] 35) := ⟨_, rfl⟩
      have hWs : W.heap.size = wr.heap.size + 1 := by rw [hW]; simp
      rw [← hW] at hg hb1 ⊢
      obtain ⟨g, hge⟩ : ∃ g, g = wr.heap.size := ⟨_, rfl⟩
      rw [← hge] at hg ⊢
      clear hW e0 e1 e2 e3 e4 e5
      have d3 := blk_cell hg 3
      have m3 := blk_frozen hg 3
      simp only [List.getElem?_cons_zero, List.getElem?_cons_succ] at d3
      have HG := Lib.hid hg; have HB1 := Lib.hid hb1; have HGE := Lib.hid hge; have HWS := Lib.hid hWs
      have hgW : g < W.heap.size := by omega
      obtain ⟨m, hm⟩ : ∃ m, m = p.path.length := ⟨_, rfl⟩
      rw [← hm] at d3 hpb hpl HPR
      have HM := Lib.hid hm
      clear hg hb1 hge hWs hm
      go_upto_region 6 with (at_builtin; refine wpList_appendRd rfl _ (.tmp 19) 32 rfl (wr.heap.size + 1) 9 (.string ⟨#[]⟩) 1 16 Tryd.underlying32 info9 rfl (by decide) (.slice none 0 0) 0 [] rfl (World.ownsRow_nil _ _ _ _) wr.heap.size Ap m cp (strs p.path) rfl (HPR.out _ HB1.out) (strs_one p.path) (by omega) (by omega) (by have := HWS.out; omega) ?_; intro A2 cap2 w2 hown2 hb2 hg2; simp only [Nat.zero_add, List.nil_append] at hown2; have hgk : ∀ k, k < W.heap.size → w2.heap[k]? = W.heap[k]? := (fun k hk => hg2.block k hk (by intro e; cases e)); have hG2 := blk_at HG.out (hgk g hgW); have q3 := blk_cell hG2 3; have qf3 := blk_frozen hG2 3; simp only [List.getElem?_cons_zero, List.getElem?_cons_succ] at q3; have HO2 := Lib.hid hown2; have HB2 := Lib.hid hb2; have HGK := Lib.hid hgk; have HG2 := Lib.hid hG2; have HGR := Lib.hid hg2; clear hown2 hb2 hg2 hgk hG2)
      have hb3 : Below wr.heap.size wr (w2.setCell ⟨g, 3, none⟩ (.slice A2 m cap2)) := (HB1.out.trans ((Below.refl wr.heap.size W).grown HGR.out (by have := HWS.out; omega) (fun k hk => by cases hk))).setCell (by show wr.heap.size ≤ g; have := HGE.out; omega) _
      have hG3 : Blk (w2.setCell ⟨g, 3, none⟩ (.slice A2 m cap2)) g 35 [.int .i64 p.kind, .int .i64 p.pos, .string (bs p.text), .slice A2 m cap2, .string (bs p.name), .int .i64 p.place] := blk_set HG2.out 3 _
      have hO3 : (w2.setCell ⟨g, 3, none⟩ (.slice A2 m cap2)).ownsRow (wr.heap.size + 1) 9 1 (.slice A2 m cap2) m (strs p.path) :=
        ownsRow_heap HO2.out (fun k ek => Below.heap_setCell w2 ⟨g, 3, none⟩ _ k (by have := (HO2.out.lt k ek).1; have := HGE.out; show k ≠ g; omega))
      obtain ⟨W3, hW3⟩ : ∃ W3, W3 = w2.setCell ⟨g, 3, none⟩ (.slice A2 m cap2) := ⟨_, rfl⟩
      rw [← hW3] at hb3 hG3 hO3 ⊢
      clear hW3
      have hNI3 := HNI.out.keep hb3
      have hpath : PathRd W3 (PN W3 (fbN N outV openV fs)) (.slice A2 m cap2) p.path := by
        rw [HM.out] at hO3 ⊢
        exact own_path hO3 (fun k h1 h2 => ⟨h2, fun hm => by have := (HNI.out.lt k hm).2; omega⟩)
      have h36 := take_any W3 N N outV openV fs out hNI3 (by have := blk_lt hNI3.blk; omega) (by omega) p A2 cap2 (by rw [HM.out] at hpath; exact hpath)
      rw [← HM.out] at h36
      have H36 := Lib.hid h36
      have c0 := blk_cell hG3 0; have c1 := blk_cell hG3 1; have c2 := blk_cell hG3 2; have c3 := blk_cell hG3 3; have c4 := blk_cell hG3 4; have c5 := blk_cell hG3 5
      simp only [List.getElem?_cons_zero, List.getElem?_cons_succ] at c0 c1 c2 c3 c4 c5
      have hgl3 := blk_lt hG3
      have HB3 := Lib.hid hb3; have HG3 := Lib.hid hG3
      have hs3 := hb3.size
      clear hb3 hG3 hO3 hNI3 hpath h36 HO2 HB2 HGK HG2 HGR d3 m3 q3 qf3
      cases hT : takeS (stOf out fs) p with
      | none =>
        rw [hT] at H36 HAT
        have H36 : Hid (Calls Tryd.prog 36 #[.pointer (some ⟨N, 0, none⟩), .agg #[.int .i64 p.kind, .int .i64 p.pos, .string (bs p.text), .slice A2 m cap2, .string (bs p.name), .int .i64 p.place]] W3 fun e w' => e = .returned (.bool false) ∧ Below W3.heap.size W3 w') := H36
        have HRf : Hid (R = ⟨[], p.pos, 180⟩) := HAT
        clear HAT hT
        go_upto_region 7 with (go_at_call 36; refine H36.out.mono ?_; rintro e w5 ⟨rfl, hb5⟩)
        have hg5 := blk_below HG3.out hb5 hgl3
        have f1 := blk_cell hg5 1
        simp only [List.getElem?_cons_zero, List.getElem?_cons_succ] at f1
        have hb6 : Below N w w5 := HBR.out.trans ((HB3.out.trans (hb5.mono hs3)).mono (by omega))
        have HB6 := Lib.hid hb6
        clear hg5 hb5 hb6 c0 c1 c2 c3 c4 c5
        go_quiet (fail)
        go_wp2_with fail
        go_ret3
        refine ⟨_, by rw [HRf.out]; rfl, by rw [HRf.out]; exact VRd.nil, ?_⟩
        rw [← HN.out]
        exact HB6.out.trans ⟨rfl, rfl, rfl, Nat.le_refl _, fun _ _ => rfl⟩
      | some s' =>
        have htt := tot_take _ _ _ hT
        rw [hT] at H36 HAT
        have H36 : Hid (Calls Tryd.prog 36 #[.pointer (some ⟨N, 0, none⟩), .agg #[.int .i64 p.kind, .int .i64 p.pos, .string (bs p.text), .slice A2 m cap2, .string (bs p.name), .int .i64 p.place]] W3 fun e w' => e = .returned (.bool true) ∧ NIs w' N N s' ∧ Below N W3 w') := H36
        have HAT : Hid (R = nestFrom size (ps.drop (j + 1)) s') := HAT
        clear hT
        go_wp2_with (go_at_call 36; refine H36.out.mono ?_; rintro e w5 ⟨rfl, hn5, hb5⟩; have HN5 := Lib.hid hn5; have HB5 := Lib.hid hb5; clear hn5 hb5)
        obtain ⟨outV', openV', fs', hn6, hf6⟩ := HN5.out
        have hst : stOf s'.out fs' = s' := by unfold stOf; rw [hf6]
        refine ⟨⟨j + 1, outV', openV', fs', s'.out, by go_num, by omega, hn6, by rw [hst]; omega, by rw [hst]; exact HAT.out, HBR.out.trans ((HB3.out.mono (by omega)).trans HB5.out)⟩, by simp [intOf]; omega⟩
    · obtain rfl : j = n := by omega
      have tj : decide ((j : Int) < (j : Int)) = false := by rw [decide_eq_false_iff_not]; omega
      rw [List.drop_of_length_le (by rw [← Hn.out]; exact Nat.le_refl _), nestFrom] at hR
      have hfl : (stOf out fs).st.length = fs.length := by unfold stOf; rw [List.length_map]
      rw [hfl] at hR
      obtain ⟨Ao, co, rfl, _⟩ := hNI.openLen
      have n1 := blk_cell hNI.blk 1
      have n0 := blk_cell hNI.blk 0
      simp only [List.getElem?_cons_zero, List.getElem?_cons_succ] at n0 n1
      have HRx := Lib.hid hR
      obtain ⟨m, hm⟩ : ∃ m, m = fs.length := ⟨_, rfl⟩
      rw [← hm] at n1 HRx
      have HM := Lib.hid hm
      clear hR hfl hm hNI hbr
      by_cases hm0 : m = 0
      · have hr := HRx.out
        rw [if_pos hm0] at hr
        have HRf : Hid (R = ⟨out, 0, 0⟩) := hr
        subst hm0
        clear hr HRx
        go_wp2_with fail
        go_ret3
        refine ⟨_, by rw [HRf.out]; rfl, ?_, by rw [← HN.out]; exact HBR.out⟩
        rw [HRf.out]
        exact HNI.out.out.read (fun k ek => (HNI.out.out.own k ek).2) (fun b hb => hb.1)
      · have hr := HRx.out
        rw [if_neg hm0] at hr
        have HRf : Hid (R = ⟨[], size, 180⟩) := hr
        have tm : 0 < m := by omega
        clear hr HRx hm0
        go_wp2_with fail
        go_ret3
        exact ⟨_, by rw [HRf.out]; rfl, by rw [HRf.out]; exact VRd.nil, by rw [← HN.out]; exact HBR.out⟩
end Go.Proofs.YthilkpjdfjjikaaDoor
