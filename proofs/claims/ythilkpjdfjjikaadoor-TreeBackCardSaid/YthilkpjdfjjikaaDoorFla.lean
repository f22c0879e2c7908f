/-
  tree.Flat, walked.
-/
import Derived.Test.YthilkpjdfjjikaaDoorFlp
import Derived.Test.YthilkpjdfjjikaaDoorNes
import Derived.Test.YthilkpjdfjjikaaDoorDep
set_option linter.unusedVariables false
set_option linter.unusedSimpArgs false
namespace Go.Proofs.YthilkpjdfjjikaaDoor
open Go.RowKit
attribute [local go_sem ↓] Go.wp_at_zero Go.wp_at_succ

def FlatPost (w : World) (P : Nat → Prop) (l : List Pc) (e : Ending) (w' : World) : Prop :=
  ∃ v, e = .returned v ∧ POwn w' w.heap.size P v l ∧ Below w.heap.size w w'
set_option maxHeartbeats 8000000 in
set_option maxRecDepth 100000 in
theorem flat_any : ∀ (N : Nat) (ps : List Part) (P : Nat → Prop) (v : Value) (w : World), sizes ps < N → N ≤ 300000 → VRd w P v ps → (∀ b, P b → b < w.heap.size) →
    Calls Tryd.prog 23 #[v] w (FlatPost w P (flats ps)) := by
  intro N
  induction N with
  | zero => intro ps P v w h; exact absurd h (Nat.not_lt_zero _)
  | succ N ih =>
    intro ps P v w hN hN2 h hP
    have hrd := h
    obtain ⟨A, c, rfl, hc, _⟩ := h
    have hlen := sizes_len ps
    have HP := Lib.hid hP; have HI := Lib.hid ih
    obtain ⟨R, hR⟩ : ∃ R, R = flats ps := ⟨_, rfl⟩
    rw [← hR]
    have HR := Lib.hid hR
    obtain ⟨n, hn⟩ : ∃ n, n = ps.length := ⟨_, rfl⟩
    rw [← hn] at hc hlen hrd ⊢
    have Hn := Lib.hid hn; have H := Lib.hid hrd
    clear hP ih hR hn hrd
    go_enter Tryd.func23, Tryd.ntmps23
    go_wp2_with fail
    go_loopw [3, 9] (fun ov i wr => ∃ j : Nat, i = .int .i64 (j : Int) ∧ j ≤ n ∧ POwn wr w.heap.size P ov (flats (ps.take j)) ∧ Below w.heap.size w wr) (fun _ i _ => n - (intOf i).toNat)
    case atStart => exact ⟨0, rfl, Nat.zero_le _, by rw [List.take_zero]; exact POwn.nil, Below.refl _ _⟩
    case round =>
      obtain ⟨j, rfl, hj, hv, hbr⟩ := hrel
      have hbs := hbr.size
      have HV := Lib.hid hv
      clear hv
      by_cases hjn : j < n
      · have tj : decide ((j : Int) < (n : Int)) = true := by rw [decide_eq_true_eq]; omega
        obtain ⟨b, off, p, ks, os, Av, cv, Ak, ck, Ao2, co2, rfl, hb, hq, hcell, hpv, hks, hos⟩ := (H.out.below hbr HP.out).part Hn.out j hjn
        have hb := HP.out b hb
        have hsz := sizes_at ps j _ hq
        have hsn := flats_snoc ps j _ hq
        have hfl := flats_len (ps.take j)
        have hsc := sizes_snoc ps j _ hq
        simp only [Part.size] at hsz hsc
        have HSN := Lib.hid hsn
        obtain ⟨out, hout⟩ : ∃ out, out = flats (ps.take j) := ⟨_, rfl⟩
        rw [← hout] at HSN HV hfl
        have hol : out.length ≤ 900000 := by omega
        have e0 := hcell 0 (by decide); have e1 := hcell 1 (by decide); have e2 := hcell 2 (by decide); have e3 := hcell 3 (by decide); have e4 := hcell 4 (by decide); have e5 := hcell 5 (by decide); have e6 := hcell 6 (by decide); have e7 := hcell 7 (by decide)
        simp only [ptc, List.getElem?_cons_zero, List.getElem?_cons_succ, Nat.add_zero] at e0 e1 e2 e3 e4 e5 e6 e7
        have HBR := Lib.hid hbr; have HKS := Lib.hid hks; have HOS := Lib.hid hos; have HPV := Lib.hid hpv
        clear hcell hbr hks hos hsn hq hpv hout
        have hPr : ∀ b, P b → b < wr.heap.size := fun b h => Nat.lt_of_lt_of_le (HP.out b h) hbs
        have HPr := Lib.hid hPr
        clear hPr
        have hg := blk_new wr 74 #[.int .i64 p.kind, .int .i64 p.pos, .string (bs p.text), .slice Av p.path.length cv, .string (bs p.name), .int .i64 p.place, .slice Ak ks.length ck, .slice Ao2 os.length co2]
        go_upto_region 5 with fail
        have hbw : Below wr.heap.size wr (wr.alloc (.cells #[.int .i64 p.kind, .int .i64 p.pos, .string (bs p.text), .slice Av p.path.length cv, .string (bs p.name), .int .i64 p.place, .slice Ak ks.length ck, .slice Ao2 os.length co2] 74)) := (Below.refl _ wr).alloc (Nat.le_refl _) _
        obtain ⟨W, hW⟩ : ∃ W, W = wr.alloc (.cells #[.int .i64 p.kind, .int .i64 p.pos, .string (bs p.text), .slice Av p.path.length cv, .string (bs p.name), .int .i64 p.place, .slice Ak ks.length ck, .slice Ao2 os.length co2] 74) := ⟨_, rfl⟩
        have hWs : W.heap.size = wr.heap.size + 1 := by rw [hW]; simp
        rw [← hW] at hg hbw ⊢
        obtain ⟨g, hge⟩ : ∃ g, g = wr.heap.size := ⟨_, rfl⟩
        rw [← hge] at hg ⊢
        clear hW e0 e1 e2 e3 e4 e5 e6 e7
        have e0 := blk_cell hg 0; have e1 := blk_cell hg 1; have e2 := blk_cell hg 2; have e3 := blk_cell hg 3; have e4 := blk_cell hg 4; have e5 := blk_cell hg 5
        simp only [List.getElem?_cons_zero, List.getElem?_cons_succ] at e0 e1 e2 e3 e4 e5
        have HG := Lib.hid hg; have HBW := Lib.hid hbw; have HWS := Lib.hid hWs; have HGE := Lib.hid hge
        have hgW : g < W.heap.size := by omega
        clear hg hbw hWs hge
        have hg2 := blk_new W 35 #[.int .i64 p.kind, .int .i64 p.pos, .string (bs p.text), .slice Av p.path.length cv, .string (bs p.name), .int .i64 p.place]
        go_upto_region 6 with fail
        have hG2 := blk_alloc HG.out (.cells #[.int .i64 p.kind, .int .i64 p.pos, .string (bs p.text), .slice Av p.path.length cv, .string (bs p.name), .int .i64 p.place] 35)
        have hbw2 : Below wr.heap.size wr (W.alloc (.cells #[.int .i64 p.kind, .int .i64 p.pos, .string (bs p.text), .slice Av p.path.length cv, .string (bs p.name), .int .i64 p.place] 35)) := HBW.out.alloc (by have := HWS.out; omega) _
        obtain ⟨W2, hW2⟩ : ∃ W2, W2 = W.alloc (.cells #[.int .i64 p.kind, .int .i64 p.pos, .string (bs p.text), .slice Av p.path.length cv, .string (bs p.name), .int .i64 p.place] 35) := ⟨_, rfl⟩
        have hW2s : W2.heap.size = wr.heap.size + 2 := by rw [hW2]; have := HWS.out; simp; omega
        rw [← hW2] at hg2 hG2 hbw2 ⊢
        obtain ⟨g2, hge2⟩ : ∃ g2, g2 = W.heap.size := ⟨_, rfl⟩
        rw [← hge2] at hg2 ⊢
        have hgg : g2 = wr.heap.size + 1 ∧ g = wr.heap.size := by have := HWS.out; have := HGE.out; omega
        clear hW2 hge2 e0 e1 e2 e3 e4 e5
        have d3 := blk_cell hg2 3
        have m3 := blk_frozen hg2 3
        simp only [List.getElem?_cons_zero, List.getElem?_cons_succ] at d3
        obtain ⟨m, hm⟩ : ∃ m, m = p.path.length := ⟨_, rfl⟩
        have hprw : Rd W2 wr.heap.size 1 Av p.path.length (strs p.path) := (HPV.out.below hbw2 HPr.out).rd HPr.out
        rw [← hm] at d3 hprw
        have hml : m ≤ 300000 := by omega
        have HM := Lib.hid hm; have HPW := Lib.hid hprw; have HG2 := Lib.hid hg2; have HG' := Lib.hid hG2; have HB2 := Lib.hid hbw2; have HW2S := Lib.hid hW2s; have HGG := Lib.hid hgg
        have hg2W : g2 < W2.heap.size := by omega
        have hgW2 : g < W2.heap.size := by omega
        clear hm hprw hg2 hG2 hbw2 hW2s hgg HG HBW HWS HGE hgW
        go_upto_region 7 with (at_builtin; refine wpList_appendRd rfl _ (.tmp 16) 32 rfl (wr.heap.size + 2) 9 (.string ⟨#[]⟩) 1 16 Tryd.underlying32 info9 rfl (by decide) (.slice none 0 0) 0 [] rfl (World.ownsRow_nil _ _ _ _) wr.heap.size Av m cv (strs p.path) rfl HPW.out (strs_one p.path) (by omega) (by omega) (by have := HW2S.out; omega) ?_; intro A2 cap2 w2 hown2 hb2 hgr2; simp only [Nat.zero_add, List.nil_append] at hown2; have hgk : ∀ k, k < W2.heap.size → w2.heap[k]? = W2.heap[k]? := (fun k hk => hgr2.block k hk (by intro e; cases e)); have hG2 := blk_at HG2.out (hgk g2 hg2W); have q3 := blk_cell hG2 3; have qf3 := blk_frozen hG2 3; simp only [List.getElem?_cons_zero, List.getElem?_cons_succ] at q3; have HO2 := Lib.hid hown2; have HGK := Lib.hid hgk; have HGB := Lib.hid hG2; have HGR := Lib.hid hgr2; clear hown2 hb2 hgr2 hgk hG2)
        have hb3 : Below wr.heap.size wr (w2.setCell ⟨g2, 3, none⟩ (.slice A2 m cap2)) := (HB2.out.trans ((Below.refl wr.heap.size W2).grown HGR.out (by have := HW2S.out; omega) (fun k hk => by cases hk))).setCell (by show wr.heap.size ≤ g2; have := HGG.out; omega) _
        have hG3 : Blk (w2.setCell ⟨g2, 3, none⟩ (.slice A2 m cap2)) g2 35 [.int .i64 p.kind, .int .i64 p.pos, .string (bs p.text), .slice A2 m cap2, .string (bs p.name), .int .i64 p.place] := blk_set HGB.out 3 _
        have hgne : g ≠ g2 := by have := HGG.out; omega
        have hGp : Blk (w2.setCell ⟨g2, 3, none⟩ (.slice A2 m cap2)) g 74 [.int .i64 p.kind, .int .i64 p.pos, .string (bs p.text), .slice Av p.path.length cv, .string (bs p.name), .int .i64 p.place, .slice Ak ks.length ck, .slice Ao2 os.length co2] := blk_far (blk_at HG'.out (HGK.out g hgW2)) (p := ⟨g2, 3, none⟩) hgne _
        have hO3 : (w2.setCell ⟨g2, 3, none⟩ (.slice A2 m cap2)).ownsRow (wr.heap.size + 2) 9 1 (.slice A2 m cap2) m (strs p.path) :=
          ownsRow_heap HO2.out (fun k ek => Below.heap_setCell w2 ⟨g2, 3, none⟩ _ k (by have := (HO2.out.lt k ek).1; have := HGG.out; show k ≠ g2; omega))
        obtain ⟨W3, hW3⟩ : ∃ W3, W3 = w2.setCell ⟨g2, 3, none⟩ (.slice A2 m cap2) := ⟨_, rfl⟩
        rw [← hW3] at hb3 hG3 hO3 hGp ⊢
        clear hW3
        have hpath : PathRd W3 (QT P w.heap.size W3) (.slice A2 m cap2) p.path := by
          rw [HM.out] at hO3 ⊢
          exact own_pathT hO3 (by omega)
        have hV3 := HV.out.below HP.out hbs hb3
        have c0 := blk_cell hG3 0; have c1 := blk_cell hG3 1; have c2 := blk_cell hG3 2; have c3 := blk_cell hG3 3; have c4 := blk_cell hG3 4; have c5 := blk_cell hG3 5
        simp only [List.getElem?_cons_zero, List.getElem?_cons_succ] at c0 c1 c2 c3 c4 c5
        have hs3 := hb3.size
        have HB3 := Lib.hid hb3; have HGP := Lib.hid hGp; have HPATH := Lib.hid hpath; have HV3 := Lib.hid hV3
        clear hb3 hG3 hO3 hGp hpath hV3 HO2 HGK HGB HGR d3 m3 q3 qf3 HG2 HG' HPW HB2
        go_upto_region 8 with (at_builtin; refine wpList_pushP rfl (.tmp 19) (.tmp 21) rfl w.heap.size P HP.out (by omega) out _ rfl HV3.out p (.slice A2 m cap2) HPATH.out #[.int .i64 p.kind, .int .i64 p.pos, .string (bs p.text), .slice A2 m cap2, .string (bs p.name), .int .i64 p.place] rfl rfl (by omega) ?_; intro v7 w7 hv7 hb7 hk7; have HV7 := Lib.hid hv7; have HB7 := Lib.hid hb7; have HK7 := Lib.hid hk7; clear hv7 hb7 hk7)
        have hG7 := HK7.out.blk HGP.out (by decide)
        have hB7 : Below w.heap.size w w7 := HBR.out.trans ((HB3.out.mono hbs).trans HB7.out)
        have hs7 := HB7.out.size
        have d0 := blk_cell hG7 0; have d6 := blk_cell hG7 6; have d7 := blk_cell hG7 7
        simp only [List.getElem?_cons_zero, List.getElem?_cons_succ] at d0 d6 d7
        have hgl7 := blk_lt hG7
        have HG7 := Lib.hid hG7; have HBB7 := Lib.hid hB7
        clear hG7 hB7 c0 c1 c2 c3 c4 c5
        obtain ⟨kd, hkd⟩ : ∃ kd, kd = p.kind := ⟨_, rfl⟩
        rw [← hkd] at d0
        have HKD := Lib.hid hkd
        clear hkd
        by_cases hK : kd = 3 ∨ kd = 4
        · have hqf : (Part.mk p ks os).flat = [p] ++ (flats ks ++ ((if os = [] then [] else (⟨5, 0, [], [], [], 0⟩ : Pc) :: flats os) ++ [(⟨6, 0, [], [], [], 0⟩ : Pc)])) := by
            unfold Part.flat
            rw [if_pos (by unfold blockK; rw [← HKD.out]; rcases hK with h | h <;> rw [h] <;> rfl)]; rfl
          have hsn := HSN.out
          rw [hqf] at hsn
          have HSN2 := Lib.hid hsn
          clear hqf hsn HSN HKD
          have hbB : Below w.heap.size wr w7 := (HB3.out.mono hbs).trans HB7.out
          have hks7 := HKS.out.below hbB HP.out
          have hos7 := HOS.out.below hbB HP.out
          have hk23 : Calls Tryd.prog 23 #[.slice Ak ks.length ck] w7 (FlatPost w7 P (flats ks)) := HI.out ks P _ w7 (by omega) (by omega) hks7 (fun b h => by have := HP.out b h; omega)
          have ho23 : ∀ W, Below w.heap.size w7 W → Calls Tryd.prog 23 #[.slice Ao2 os.length co2] W (FlatPost W P (flats os)) := fun W hb => HI.out os P _ W (by omega) (by omega) (hos7.below hb HP.out) (fun b h => by have := HP.out b h; have := hb.size; omega)
          have hkl := flats_len ks
          have holn := flats_len os
          obtain ⟨fk, hfk⟩ : ∃ fk, fk = flats ks := ⟨_, rfl⟩
          obtain ⟨fo, hfo⟩ : ∃ fo, fo = flats os := ⟨_, rfl⟩
          rw [← hfk] at hk23 hkl
          rw [← hfo] at holn
          simp only [← hfo] at ho23
          rw [← hfk, ← hfo] at HSN2
          have hfkl : fk.length ≤ 900000 := by omega
          have hfol : fo.length ≤ 900000 := by omega
          have HK23 := Lib.hid hk23; have HO23 := Lib.hid ho23
          obtain ⟨o2, ho2⟩ : ∃ o2, o2 = out ++ [p] := ⟨_, rfl⟩
          have ho2l : o2.length = out.length + 1 := by rw [ho2, List.length_append]; rfl
          rw [← List.append_assoc, ← ho2] at HSN2
          rw [← ho2] at HV7
          have htot : o2.length + fk.length + fo.length + 2 ≤ 1000000 := by omega
          clear hk23 ho23 hks7 hos7 hfk hfo ho2 hbB
          rcases hK with rfl | rfl
          all_goals
            go_upto_region 10 with (first | (go_at_call 23; refine HK23.out.mono ?_; rintro e w8 ⟨v8, rfl, hv8, hb8⟩; have HV8 := Lib.hid hv8; have HB8 := Lib.hid hb8; clear hv8 hb8) | (at_builtin; refine wpList_appP rfl (.tmp 33) (.tmp 36) rfl w.heap.size P HP.out (by have := HB8.out.size; omega) o2 fk v7 v8 rfl (HV7.out.below HP.out (by omega) HB8.out) rfl (HV8.out.base (by omega)) (by omega) ?_; intro v9 w9 hv9 hb9 hk9; have HV9 := Lib.hid hv9; have HB9 := Lib.hid hb9; have HK9 := Lib.hid hk9; clear hv9 hb9 hk9))
            have hG9 := HK9.out.blk (blk_below HG7.out HB8.out hgl7) (by decide)
            have hb79 : Below w.heap.size w7 w9 := (HB8.out.mono (by omega)).trans HB9.out
            have d7 := blk_cell hG9 7
            simp only [List.getElem?_cons_zero, List.getElem?_cons_succ] at d7
            obtain ⟨o3, ho3⟩ : ∃ o3, o3 = o2 ++ fk := ⟨_, rfl⟩
            have ho3l : o3.length = o2.length + fk.length := by rw [ho3, List.length_append]
            have hs3 := HSN2.out
            rw [← List.append_assoc o2 fk, ← ho3] at hs3
            have HS3 := Lib.hid hs3
            rw [← ho3] at HV9
            have HG9 := Lib.hid hG9; have HB79 := Lib.hid hb79
            have hgl9 := blk_lt hG9
            have hs79 := hb79.size
            clear hs3 hG9 hb79 d0 d6
            by_cases hos : os = []
            · have hs4 := HS3.out
              rw [if_pos hos, List.nil_append] at hs4
              have HS4 := Lib.hid hs4
              have hol0 : os.length = 0 := by rw [hos]; rfl
              rw [hol0] at d7
              clear hs4 hos hol0
              go_upto_region 14 with (at_builtin; refine wpList_pushP rfl (.tmp 51) (.tmp 53) rfl w.heap.size P HP.out (by omega) o3 v9 rfl HV9.out ⟨6, 0, [], [], [], 0⟩ (.slice none 0 0) PathRd.nil #[.int .i64 6, .int .i64 0, .string ⟨#[]⟩, .slice none 0 0, .string ⟨#[]⟩, .int .i64 0] rfl rfl (by omega) ?_; intro v14 w14 hv14 hb14 hk14; have HV14 := Lib.hid hv14; have HB14 := Lib.hid hb14; clear hv14 hb14 hk14)
              go_wp2_with fail
              refine ⟨⟨j + 1, by go_num, by omega, by rw [HS4.out]; exact HV14.out, HBB7.out.trans (HB79.out.trans HB14.out)⟩, by simp [intOf]; omega⟩
            · have hs4 := HS3.out
              rw [if_neg hos] at hs4
              have HS4 := Lib.hid hs4
              have hol1 : 0 < os.length := List.length_pos_iff.2 hos
              obtain ⟨ol, holv⟩ : ∃ ol, ol = os.length := ⟨_, rfl⟩
              rw [← holv] at d7 hol1 HO23 HG9
              clear hs4 hos holv
              go_upto_region 12 with (at_builtin; refine wpList_pushP rfl (.tmp 42) (.tmp 44) rfl w.heap.size P HP.out (by omega) o3 v9 rfl HV9.out ⟨5, 0, [], [], [], 0⟩ (.slice none 0 0) PathRd.nil #[.int .i64 5, .int .i64 0, .string ⟨#[]⟩, .slice none 0 0, .string ⟨#[]⟩, .int .i64 0] rfl rfl (by omega) ?_; intro v11 w11 hv11 hb11 hk11; have HV11 := Lib.hid hv11; have HB11 := Lib.hid hb11; have HK11 := Lib.hid hk11; clear hv11 hb11 hk11)
              have hG11 := HK11.out.blk HG9.out (by decide)
              have hb711 : Below w.heap.size w7 w11 := HB79.out.trans HB11.out
              have hs711 := hb711.size
              have HB711 := Lib.hid hb711
              obtain ⟨o4, ho4⟩ : ∃ o4, o4 = o3 ++ [(⟨5, 0, [], [], [], 0⟩ : Pc)] := ⟨_, rfl⟩
              have ho4l : o4.length = o3.length + 1 := by rw [ho4, List.length_append]; rfl
              rw [← ho4] at HV11
              have d7 := blk_cell hG11 7
              simp only [List.getElem?_cons_zero, List.getElem?_cons_succ] at d7
              have hgl11 := blk_lt hG11
              clear hb711
              go_upto_region 13 with (first | (go_at_call 23; refine (HO23.out _ HB711.out).mono ?_; rintro e w12 ⟨v12, rfl, hv12, hb12⟩; have HV12 := Lib.hid hv12; have HB12 := Lib.hid hb12; clear hv12 hb12) | (at_builtin; refine wpList_appP rfl (.tmp 46) (.tmp 49) rfl w.heap.size P HP.out (by have := HB12.out.size; omega) o4 fo v11 v12 rfl (HV11.out.below HP.out (by omega) HB12.out) rfl (HV12.out.base (by omega)) (by omega) ?_; intro v13 w13 hv13 hb13 hk13; have HV13 := Lib.hid hv13; have HB13 := Lib.hid hb13; clear hv13 hb13 hk13))
              have hb713 : Below w.heap.size w7 w13 := HB711.out.trans ((HB12.out.mono (by omega)).trans HB13.out)
              have hs713 := hb713.size
              have HB713 := Lib.hid hb713
              obtain ⟨o5, ho5⟩ : ∃ o5, o5 = o4 ++ fo := ⟨_, rfl⟩
              have ho5l : o5.length = o4.length + fo.length := by rw [ho5, List.length_append]
              rw [← ho5] at HV13
              have hs5 := HS4.out
              rw [List.cons_append, ← List.singleton_append, ← List.append_assoc o3, ← ho4, ← List.append_assoc o4, ← ho5] at hs5
              have HS5 := Lib.hid hs5
              clear hb713 hs5
              go_upto_region 14 with (at_builtin; refine wpList_pushP rfl (.tmp 51) (.tmp 53) rfl w.heap.size P HP.out (by omega) o5 v13 rfl HV13.out ⟨6, 0, [], [], [], 0⟩ (.slice none 0 0) PathRd.nil #[.int .i64 6, .int .i64 0, .string ⟨#[]⟩, .slice none 0 0, .string ⟨#[]⟩, .int .i64 0] rfl rfl (by omega) ?_; intro v14 w14 hv14 hb14 hk14; have HV14 := Lib.hid hv14; have HB14 := Lib.hid hb14; clear hv14 hb14 hk14)
              go_wp2_with fail
              refine ⟨⟨j + 1, by go_num, by omega, by rw [HS5.out]; exact HV14.out, HBB7.out.trans (HB713.out.trans HB14.out)⟩, by simp [intOf]; omega⟩
        · have hqf : (Part.mk p ks os).flat = [p] := by
            unfold Part.flat
            rw [if_neg (by unfold blockK; rw [← HKD.out]; intro h; rw [Bool.or_eq_true, beq_iff_eq, beq_iff_eq] at h; exact hK h)]
          have hsn := HSN.out
          rw [hqf] at hsn
          have HSN2 := Lib.hid hsn
          have k3 : (kd != 3) = true := by rw [bne_iff_ne]; exact fun h => hK (.inl h)
          have k4 : (kd != 4) = true := by rw [bne_iff_ne]; exact fun h => hK (.inr h)
          clear hqf hsn HSN hK HKD
          go_wp2_with fail
          refine ⟨⟨j + 1, by go_num, by omega, by rw [HSN2.out]; exact HV7.out, HBB7.out⟩, by simp [intOf]; omega⟩
      · obtain rfl : j = n := by omega
        have tj : decide ((j : Int) < (j : Int)) = false := by rw [decide_eq_false_iff_not]; omega
        have hr : flats (ps.take j) = R := by rw [HR.out, List.take_of_length_le (by rw [← Hn.out]; exact Nat.le_refl _)]
        rw [hr] at HV
        clear hr
        go_wp2_with fail
        go_ret
        exact ⟨_, rfl, HV.out, hbr⟩
end Go.Proofs.YthilkpjdfjjikaaDoor
