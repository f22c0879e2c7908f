/-
  The document's Flat, walked.
-/
import Derived.Test.YthilkpjdfjjikaaDoorFla
import Derived.Test.YthilkpjdfjjikaaDoorOpn
set_option linter.unusedVariables false
set_option linter.unusedSimpArgs false
namespace Go.Proofs.YthilkpjdfjjikaaDoor
open Go.RowKit
attribute [local go_sem ↓] Go.wp_at_zero Go.wp_at_succ

theorem POwn.apart {w w' : World} {B B2 : Nat} {P : Nat → Prop} {v : Value} {l : List Pc} {row : Option Nat} (h : POwn w B2 P v l) (hP : ∀ b, P b → b < B) (hw : ∀ b, P b → b < w.heap.size)
    (hrow : ∀ k, row = some k → B ≤ k ∧ k < B2 ∧ ∃ cur, w.heap[k]? = some (Obj.cells cur 35 (0, 0))) (hg : w.grownBy w' row) : POwn w' B2 P v l := by
  obtain ⟨qs, e, ho, hp⟩ := h
  have hk : (∀ b, QT P B2 w b → w'.heap[b]? = w.heap[b]?) ∧ (∀ b, QT P B2 w b → QT P B2 w' b) := by
    have h1 : ∀ b, QT P B2 w b → w'.heap[b]? = w.heap[b]? := by
      rintro b (h | ⟨_, h2, cs, fr, h3⟩)
      · exact hg.block b (hw b h) (fun e => by have := (hrow b e.symm).1; have := hP b h; omega)
      · refine hg.block b h2 (fun e => ?_)
        obtain ⟨_, _, cur, hc⟩ := hrow b e.symm
        rw [hc] at h3
        injection h3 with h3
        injection h3 with _ h3 _
        exact absurd h3 (by decide)
    refine ⟨h1, ?_⟩
    rintro b (h | ⟨h2, h3, cs, fr, h4⟩)
    · exact .inl h
    · exact .inr ⟨h2, by have := hg.size; omega, cs, fr, by rw [h1 b (.inr ⟨h2, h3, cs, fr, h4⟩)]; exact h4⟩
  exact ⟨qs, e, ownsRow_heap ho (fun k ek => hg.block k (ho.lt k ek).2 (fun e => by have := (hrow k e.symm).2.1; have := (ho.lt k ek).1; omega)), fun q hq => (hp q hq).frame hk.1 hk.2⟩
def RowOf (w : World) (B B2 : Nat) (row : Option Nat) : Prop := ∀ k, row = some k → B ≤ k ∧ k < B2 ∧ ∃ cur, w.heap[k]? = some (Obj.cells cur 35 (0, 0))
theorem POwn.rowOf {w w' : World} {B : Nat} {P : Nat → Prop} {v : Value} {l : List Pc} (h : POwn w B P v l) (hb : Below w.heap.size w w') : RowOf w' B w.heap.size v.ownBlock := by
  intro k hk
  obtain ⟨qs, e, ho, hp⟩ := h
  obtain ⟨cur, hc⟩ := own_block ho hk
  have hlt := ho.lt k hk
  exact ⟨hlt.1, hlt.2, cur, (hb.block k hlt.2).trans hc⟩
/-- 'append(out, p)' at a step of a drawn region: the piece's block is known. -/
theorem step_pushB {w : World} {ops : Array Oper} {o : Oper} {a : Act} {K : Act → World → Prop} {Q : Exit → Act → World → Prop} {E : Prop} (hgd : o.guard = none) (s x : Operand)
    (ho : o.op = .call { callee := .builtin .append, args := #[s, x], argTypes := #[23, 23] })
    (B : Nat) (P : Nat → Prop) (hP : ∀ b, P b → b < B) (hB : B ≤ w.heap.size) (out : List Pc) (v : Value) (hs : a.eval s = v) (hv : POwn w B P v out) (p : Pc) (pv : Value) (hpv : PathRd w (QT P B w) pv p.path)
    (k : Nat) (hk : Blk w k 35 (pcel (p, pv))) (hx : a.eval x = .slice (some ⟨k, 0, none⟩) 1 1) (hn : out.length + 1 ≤ 1000000)
    (h : ∀ v' w', POwn w' B P v' (out ++ [p]) → Below B w w' → Kept w w' → w.grownBy w' v.ownBlock → K (a.put o.dst v') w') :
    if Region.wanted o (yielded ops a.tmps) = true then Oper.wp Tryd.prog o a w K Q else E := by
  obtain ⟨i0, hi, hz0, hz1, hz2⟩ := info_parts info35
  obtain ⟨qs, e, hown, hp⟩ := hv
  refine step_append_lies _ hgd s x 23 ho B 35 i0 _ 6 80 Tryd.underlying23 hi hz0 hz1 hz2 rfl (by decide) v out.length _ hs hown ⟨k, 0, none⟩ 1 1 (pcel (p, pv)) hx rfl ?_ ?_ (by decide) (by unfold maxLen; omega) (by omega) hB w.heap.size rfl ?_
  · intro j u hu
    rw [add_at, Nat.zero_add, blk_cell hk]; exact hu
  · have := pcel_one [(p, pv)] (fun q hq => by rw [List.mem_singleton.1 hq]; exact path_form hpv)
    rwa [List.flatMap_singleton] at this
  · intro g cap w' hown' hg _ _
    refine h _ w' (POwn.more hP hB qs e hown hp hg [(p, pv)] (fun q hq => by rw [List.mem_singleton.1 hq]; exact hpv) rfl ?_) ((Below.refl B w).grown hg hB (fun k hk => own_size hown k hk)) (kept_grown hown hg) hg
    rw [List.flatMap_singleton]; exact hown'
/-- 'append(out, l...)' at such a step. -/
theorem step_appP {w : World} {ops : Array Oper} {o : Oper} {a : Act} {K : Act → World → Prop} {Q : Exit → Act → World → Prop} {E : Prop} (hgd : o.guard = none) (s x : Operand)
    (ho : o.op = .call { callee := .builtin .append, args := #[s, x], argTypes := #[23, 23] })
    (B : Nat) (P : Nat → Prop) (hP : ∀ b, P b → b < B) (hB : B ≤ w.heap.size) (out l2 : List Pc) (v v2 : Value) (hs : a.eval s = v) (hv : POwn w B P v out) (hx : a.eval x = v2) (hv2 : POwn w B P v2 l2) (hl2 : 0 < l2.length) (hn : out.length + l2.length ≤ 1000000)
    (h : ∀ v' w', POwn w' B P v' (out ++ l2) → Below B w w' → Kept w w' → K (a.put o.dst v') w') :
    if Region.wanted o (yielded ops a.tmps) = true then Oper.wp Tryd.prog o a w K Q else E := by
  obtain ⟨i0, hi, hz0, hz1, hz2⟩ := info_parts info35
  obtain ⟨qs, e, hown, hp⟩ := hv
  obtain ⟨qs2, A, c, rfl, hc, e2, hrd, hp2⟩ := hv2.cells
  obtain ⟨b, off, rfl, hb, hcell⟩ := hrd.2 hl2
  refine step_append_lies _ hgd s x 23 ho B 35 i0 _ 6 80 Tryd.underlying23 hi hz0 hz1 hz2 rfl (by decide) v out.length _ hs hown ⟨b, off, none⟩ l2.length c (qs2.flatMap pcel) hx hrd.1 ?_ (pcel_one qs2 (fun q hq => path_form (hp2 q hq))) hl2 (by unfold maxLen; omega) (by omega) hB w.heap.size rfl ?_
  · intro j u hu
    have hj : j < l2.length * 6 := by
      have := (List.getElem?_eq_some_iff.1 hu).1
      rw [hrd.1] at this; exact this
    rw [add_at, hcell j hj]; exact hu
  · intro g cap w' hown' hg _ _
    exact h _ w' (POwn.more hP hB qs e hown hp hg qs2 hp2 e2 hown') ((Below.refl B w).grown hg hB (fun k hk => own_size hown k hk)) (kept_grown hown hg)
theorem flats_pos (l : List Part) (h : l ≠ []) : 0 < (flats l).length := by
  cases l with
  | nil => exact absurd rfl h
  | cons q r =>
    cases q
    unfold flats Part.flat
    simp
set_option maxHeartbeats 8000000 in
set_option maxRecDepth 100000 in
theorem flatR_any : ∀ (N : Nat) (ps : List Part) (P : Nat → Prop) (v : Value) (w : World), sizes ps < N → N ≤ 300000 → VRd w P v ps → (∀ b, P b → b < w.heap.size) →
    Calls Tryd.prog 24 #[v] w (FlatPost w P (flats ps)) := by
  intro N
  induction N with
  | zero => intro ps P v w h; exact absurd h (Nat.not_lt_zero _)
  | succ N ih =>
    intro ps P v w hN hN2 h hP
    have hrd := h
    obtain ⟨A, c, rfl, hc, _⟩ := h
    have hlen := sizes_len ps
    have HP := Lib.hid hP; have HI := Lib.hid ih
    obtain ⟨R, hR⟩ : ∃ R, R = flats ps := ⟨_, rfl⟩
    rw [← hR]
    have HR := Lib.hid hR
    obtain ⟨n, hn⟩ : ∃ n, n = ps.length := ⟨_, rfl⟩
    rw [← hn] at hc hlen hrd ⊢
    have Hn := Lib.hid hn; have H := Lib.hid hrd
    clear hP ih hR hn hrd
    go_enter Tryd.func24, Tryd.ntmps24
    go_wp2_with fail
    go_loopw [3, 8] (fun ov i wr => ∃ j : Nat, i = .int .i64 (j : Int) ∧ j ≤ n ∧ POwn wr w.heap.size P ov (flats (ps.take j)) ∧ Below w.heap.size w wr) (fun _ i _ => n - (intOf i).toNat)
    case atStart => exact ⟨0, rfl, Nat.zero_le _, by rw [List.take_zero]; exact POwn.nil, Below.refl _ _⟩
    case round =>
      obtain ⟨j, rfl, hj, hv, hbr⟩ := hrel
      have hbs := hbr.size
      have HV := Lib.hid hv
      clear hv
      by_cases hjn : j < n
      · have tj : decide ((j : Int) < (n : Int)) = true := by rw [decide_eq_true_eq]; omega
        obtain ⟨b, off, p, ks, os, Av, cv, Ak, ck, Ao2, co2, rfl, hb, hq, hcell, hpv, hks, hos⟩ := (H.out.below hbr HP.out).part Hn.out j hjn
        have hb := HP.out b hb
        have hsz := sizes_at ps j _ hq
        have hsn := flats_snoc ps j _ hq
        have hfl := flats_len (ps.take j)
        have hsc := sizes_snoc ps j _ hq
        simp only [Part.size] at hsz hsc
        have HSN := Lib.hid hsn
        obtain ⟨out, hout⟩ : ∃ out, out = flats (ps.take j) := ⟨_, rfl⟩
        rw [← hout] at HSN HV hfl
        have hol : out.length ≤ 900000 := by omega
        have e0 := hcell 0 (by decide); have e1 := hcell 1 (by decide); have e2 := hcell 2 (by decide); have e3 := hcell 3 (by decide); have e4 := hcell 4 (by decide); have e5 := hcell 5 (by decide); have e6 := hcell 6 (by decide); have e7 := hcell 7 (by decide)
        simp only [ptc, List.getElem?_cons_zero, List.getElem?_cons_succ, Nat.add_zero] at e0 e1 e2 e3 e4 e5 e6 e7
        have HBR := Lib.hid hbr; have HKS := Lib.hid hks; have HOS := Lib.hid hos; have HPV := Lib.hid hpv
        clear hcell hbr hks hos hsn hq hpv hout
        have hPr : ∀ b, P b → b < wr.heap.size := fun b h => Nat.lt_of_lt_of_le (HP.out b h) hbs
        have HPr := Lib.hid hPr
        clear hPr
        have hg := blk_new wr 74 #[.int .i64 p.kind, .int .i64 p.pos, .string (bs p.text), .slice Av p.path.length cv, .string (bs p.name), .int .i64 p.place, .slice Ak ks.length ck, .slice Ao2 os.length co2]
        go_upto_region 5 with fail
        have hbw : Below wr.heap.size wr (wr.alloc (.cells #[.int .i64 p.kind, .int .i64 p.pos, .string (bs p.text), .slice Av p.path.length cv, .string (bs p.name), .int .i64 p.place, .slice Ak ks.length ck, .slice Ao2 os.length co2] 74)) := (Below.refl _ wr).alloc (Nat.le_refl _) _
        obtain ⟨W, hW⟩ : ∃ W, W = wr.alloc (.cells #[.int .i64 p.kind, .int .i64 p.pos, .string (bs p.text), .slice Av p.path.length cv, .string (bs p.name), .int .i64 p.place, .slice Ak ks.length ck, .slice Ao2 os.length co2] 74) := ⟨_, rfl⟩
        have hWs : W.heap.size = wr.heap.size + 1 := by rw [hW]; simp
        rw [← hW] at hg hbw ⊢
        obtain ⟨g, hge⟩ : ∃ g, g = wr.heap.size := ⟨_, rfl⟩
        rw [← hge] at hg ⊢
        clear hW e0 e1 e2 e3 e4 e5 e6 e7
        have c0 := blk_cell hg 0; have c1 := blk_cell hg 1; have c2 := blk_cell hg 2; have c3 := blk_cell hg 3; have c4 := blk_cell hg 4; have c5 := blk_cell hg 5
        simp only [List.getElem?_cons_zero, List.getElem?_cons_succ] at c0 c1 c2 c3 c4 c5
        have hV3 := HV.out.below HP.out hbs hbw
        have hpath : PathRd W (QT P w.heap.size W) (.slice Av p.path.length cv) p.path := (HPV.out.below hbw HPr.out).frame (fun _ _ => rfl) (fun b h => .inl h)
        have hs3 := hbw.size
        have HGP := Lib.hid hg; have HB3 := Lib.hid hbw; have HV3 := Lib.hid hV3; have HPATH := Lib.hid hpath
        clear hg hbw hWs hge hV3 hpath
        go_upto_region 6 with (at_builtin; refine wpList_pushP rfl (.tmp 12) (.tmp 15) rfl w.heap.size P HP.out (by omega) out _ rfl HV3.out p (.slice Av p.path.length cv) HPATH.out #[.int .i64 p.kind, .int .i64 p.pos, .string (bs p.text), .slice Av p.path.length cv, .string (bs p.name), .int .i64 p.place] rfl rfl (by omega) ?_; intro v7 w7 hv7 hb7 hk7; have HV7 := Lib.hid hv7; have HB7 := Lib.hid hb7; have HK7 := Lib.hid hk7; clear hv7 hb7 hk7)
        have hG7 := HK7.out.blk HGP.out (by decide)
        have hB7 : Below w.heap.size w w7 := HBR.out.trans ((HB3.out.mono hbs).trans HB7.out)
        have hs7 := HB7.out.size
        have d0 := blk_cell hG7 0; have d6 := blk_cell hG7 6; have d7 := blk_cell hG7 7
        simp only [List.getElem?_cons_zero, List.getElem?_cons_succ] at d0 d6 d7
        have hgl7 := blk_lt hG7
        have HG7 := Lib.hid hG7; have HBB7 := Lib.hid hB7
        clear hG7 hB7 c0 c1 c2 c3 c4 c5
        obtain ⟨kd, hkd⟩ : ∃ kd, kd = p.kind := ⟨_, rfl⟩
        rw [← hkd] at d0
        have HKD := Lib.hid hkd
        clear hkd
        by_cases hK : kd = 3 ∨ kd = 4
        · have hqf : (Part.mk p ks os).flat = [p] ++ (flats ks ++ ((if os = [] then [] else (⟨5, 0, [], [], [], 0⟩ : Pc) :: flats os) ++ [(⟨6, 0, [], [], [], 0⟩ : Pc)])) := by
            unfold Part.flat
            rw [if_pos (by unfold blockK; rw [← HKD.out]; rcases hK with h | h <;> rw [h] <;> rfl)]; rfl
          have hsn := HSN.out
          rw [hqf] at hsn
          have HSN2 := Lib.hid hsn
          clear hqf hsn HSN HKD
          have hbB : Below w.heap.size wr w7 := (HB3.out.mono hbs).trans HB7.out
          have hks7 := HKS.out.below hbB HP.out
          have hos7 := HOS.out.below hbB HP.out
          have hk24 : Calls Tryd.prog 24 #[.slice Ak ks.length ck] w7 (FlatPost w7 P (flats ks)) := HI.out ks P _ w7 (by omega) (by omega) hks7 (fun b h => by have := HP.out b h; omega)
          have ho24 : ∀ W, Below w.heap.size w7 W → Calls Tryd.prog 24 #[.slice Ao2 os.length co2] W (FlatPost W P (flats os)) := fun W hb => HI.out os P _ W (by omega) (by omega) (hos7.below hb HP.out) (fun b h => by have := HP.out b h; have := hb.size; omega)
          have hkl := flats_len ks
          have holn := flats_len os
          have hfo0 := flats_pos os
          obtain ⟨fk, hfk⟩ : ∃ fk, fk = flats ks := ⟨_, rfl⟩
          obtain ⟨fo, hfo⟩ : ∃ fo, fo = flats os := ⟨_, rfl⟩
          rw [← hfk] at hk24 hkl
          rw [← hfo] at holn hfo0
          simp only [← hfo] at ho24
          rw [← hfk, ← hfo] at HSN2
          have hfkl : fk.length ≤ 900000 := by omega
          have hfol : fo.length ≤ 900000 := by omega
          have HK24 := Lib.hid hk24; have HO24 := Lib.hid ho24
          obtain ⟨o2, ho2⟩ : ∃ o2, o2 = out ++ [p] := ⟨_, rfl⟩
          have ho2l : o2.length = out.length + 1 := by rw [ho2, List.length_append]; rfl
          rw [← List.append_assoc, ← ho2] at HSN2
          rw [← ho2] at HV7
          have htot : o2.length + fk.length + fo.length + 2 ≤ 1000000 := by omega
          clear hk24 ho24 hks7 hos7 hfk hfo ho2 hbB
          rcases hK with rfl | rfl
          all_goals
            go_upto_region 8 with (first | (go_at_call 24; refine HK24.out.mono ?_; rintro e w8 ⟨v8, rfl, hv8, hb8⟩; have HV8 := Lib.hid hv8; have HB8 := Lib.hid hb8; clear hv8 hb8) | (at_builtin; refine wpList_appP rfl (.tmp 27) (.tmp 30) rfl w.heap.size P HP.out (by have := HB8.out.size; omega) o2 fk v7 v8 rfl (HV7.out.below HP.out (by omega) HB8.out) rfl (HV8.out.base (by omega)) (by omega) ?_; intro v9 w9 hv9 hb9 hk9; have HV9 := Lib.hid hv9; have HB9 := Lib.hid hb9; have HK9 := Lib.hid hk9; clear hv9 hb9 hk9))
            have hG9 := HK9.out.blk (blk_below HG7.out HB8.out hgl7) (by decide)
            have hb79 : Below w.heap.size w7 w9 := (HB8.out.mono (by omega)).trans HB9.out
            have d7 := blk_cell hG9 7
            simp only [List.getElem?_cons_zero, List.getElem?_cons_succ] at d7
            obtain ⟨o3, ho3⟩ : ∃ o3, o3 = o2 ++ fk := ⟨_, rfl⟩
            have ho3l : o3.length = o2.length + fk.length := by rw [ho3, List.length_append]
            have hs3 := HSN2.out
            rw [← List.append_assoc o2 fk, ← ho3] at hs3
            have HS3 := Lib.hid hs3
            rw [← ho3] at HV9
            have HG9 := Lib.hid hG9; have HB79 := Lib.hid hb79
            have hgl9 := blk_lt hG9
            have hs79 := hb79.size
            clear hs3 hG9 hb79 d0 d6
            by_cases hos : os = []
            · have hs4 := HS3.out
              rw [if_pos hos, List.nil_append] at hs4
              have HS4 := Lib.hid hs4
              have hol0 : os.length = 0 := by rw [hos]; rfl
              rw [hol0] at d7
              clear hs4 hos hol0
              go_upto_region 11 with (at_builtin; refine wpList_pushP rfl (.tmp 44) (.tmp 46) rfl w.heap.size P HP.out (by omega) o3 v9 rfl HV9.out ⟨6, 0, [], [], [], 0⟩ (.slice none 0 0) PathRd.nil #[.int .i64 6, .int .i64 0, .string ⟨#[]⟩, .slice none 0 0, .string ⟨#[]⟩, .int .i64 0] rfl rfl (by omega) ?_; intro v14 w14 hv14 hb14 hk14; have HV14 := Lib.hid hv14; have HB14 := Lib.hid hb14; clear hv14 hb14 hk14)
              go_wp2_with fail
              refine ⟨⟨j + 1, by go_num, by omega, by rw [HS4.out]; exact HV14.out, HBB7.out.trans (HB79.out.trans HB14.out)⟩, by simp [intOf]; omega⟩
            · have hs4 := HS3.out
              rw [if_neg hos] at hs4
              have HS4 := Lib.hid hs4
              have hol1 : 0 < os.length := List.length_pos_iff.2 hos
              obtain ⟨ol, holv⟩ : ∃ ol, ol = os.length := ⟨_, rfl⟩
              rw [← holv] at d7 hol1 HO24 HG9
              clear hs4 holv
              go_upto_region 9 with fail
              have HFO := Lib.hid (hfo0 hos)
              have ha9 : Below w9.heap.size w9 (w9.alloc (.cells #[.int .i64 5, .int .i64 0, .string ⟨#[]⟩, .slice none 0 0, .string ⟨#[]⟩, .int .i64 0] 35)).drew := ((Below.refl _ w9).alloc (Nat.le_refl _) _).drew
              have hk9 : Blk (w9.alloc (.cells #[.int .i64 5, .int .i64 0, .string ⟨#[]⟩, .slice none 0 0, .string ⟨#[]⟩, .int .i64 0] 35)).drew w9.heap.size 35 (pcel ((⟨5, 0, [], [], [], 0⟩ : Pc), .slice none 0 0)) := blk_drew (blk_new w9 35 #[.int .i64 5, .int .i64 0, .string ⟨#[]⟩, .slice none 0 0, .string ⟨#[]⟩, .int .i64 0])
              have hv9 : POwn (w9.alloc (.cells #[.int .i64 5, .int .i64 0, .string ⟨#[]⟩, .slice none 0 0, .string ⟨#[]⟩, .int .i64 0] 35)).drew w.heap.size P v9 o3 := HV9.out.below HP.out (by omega) ha9
              have hz9 : w.heap.size ≤ (w9.alloc (.cells #[.int .i64 5, .int .i64 0, .string ⟨#[]⟩, .slice none 0 0, .string ⟨#[]⟩, .int .i64 0] 35)).drew.heap.size := by have := ha9.size; omega
              have HA9 := Lib.hid ha9; have HK9' := Lib.hid hk9; have HV9' := Lib.hid hv9; have HZ9 := Lib.hid hz9
              clear ha9 hk9 hv9 hz9
              obtain ⟨o4, ho4⟩ : ∃ o4, o4 = o3 ++ [(⟨5, 0, [], [], [], 0⟩ : Pc)] := ⟨_, rfl⟩
              have ho4l : o4.length = o3.length + 1 := by rw [ho4, List.length_append]; rfl
              have HO4 := Lib.hid ho4
              obtain ⟨o5, ho5⟩ : ∃ o5, o5 = o4 ++ fo := ⟨_, rfl⟩
              have ho5l : o5.length = o4.length + fo.length := by rw [ho5, List.length_append]
              have hs5 := HS4.out
              rw [List.cons_append, ← List.singleton_append, ← List.append_assoc o3, ← ho4, ← List.append_assoc o4, ← ho5] at hs5
              have HS5 := Lib.hid hs5; have HO5 := Lib.hid ho5
              clear hs5 ho4 ho5 hos
              have tok1 : True := trivial
              go_region_held3 (fun w' => w'.cell? ⟨g, 7, none⟩ = some (.slice Ao2 ol co2)) (first | go_keep | assumption) (first | ((go_at_call 24; refine (HO24.out _ HB710.out).mono ?_; rintro e w12 ⟨v12, rfl, hv12, hb12⟩; have hG12 := blk_below HG10.out hb12 (blk_lt HG10.out); have k7' := blk_cell hG12 7; simp only [List.getElem?_cons_zero, List.getElem?_cons_succ] at k7'; have HV12 := Lib.hid hv12; have HB12 := Lib.hid hb12; have tok2 : True := trivial; clear hv12 hb12 hG12)) | (have _t := tok1; (refine step_pushB (by rfl) (.tmp 36) (.tmp 38) (by rfl) w.heap.size P HP.out HZ9.out o3 v9 (by rfl) HV9'.out ⟨5, 0, [], [], [], 0⟩ (.slice none 0 0) PathRd.nil w9.heap.size HK9'.out (by rfl) (by omega) ?_; intro v10 w10 hv10 hb10 hk10 hg10; have hG10 := hk10.blk (blk_below HG9.out HA9.out hgl9) (by decide); have k7 := blk_cell hG10 7; simp only [List.getElem?_cons_zero, List.getElem?_cons_succ] at k7; have hb710 : Below w.heap.size w7 w10 := HB79.out.trans ((HA9.out.mono (by omega)).trans hb10); have HV10 := Lib.hid hv10; have HB710 := Lib.hid hb710; have HG10 := Lib.hid hG10; clear hv10 hb10 hk10 hg10 hG10 hb710 tok1)) | ((have _t := tok2; refine step_appP (by rfl) (.tmp 39) (.tmp 42) (by rfl) w.heap.size P HP.out (by have := HB12.out.size; have := HB710.out.size; omega) o4 fo v10 v12 (by rfl) (by rw [HO4.out]; exact HV10.out.below HP.out (by have := HB710.out.size; omega) HB12.out) (by rfl) (HV12.out.base (by have := HB710.out.size; omega)) HFO.out (by omega) ?_; intro v13 w13 hv13 hb13 hk13; have hG13 := hk13.blk (blk_below HG10.out HB12.out (blk_lt HG10.out)) (by decide); have k7'' := blk_cell hG13 7; simp only [List.getElem?_cons_zero, List.getElem?_cons_succ] at k7''; have HV13 := Lib.hid hv13; have HB13 := Lib.hid hb13; clear hv13 hb13 hk13 hG13)) | fail)
              rw [← HO5.out] at HV13
              have hb713 : Below w.heap.size w7 w13 := HB710.out.trans ((HB12.out.mono (by have := HB710.out.size; omega)).trans HB13.out)
              have hs713 := hb713.size
              have HB713 := Lib.hid hb713
              clear hb713
              go_upto_region 11 with (at_builtin; refine wpList_pushP rfl (.tmp 44) (.tmp 46) rfl w.heap.size P HP.out (by omega) o5 v13 rfl HV13.out ⟨6, 0, [], [], [], 0⟩ (.slice none 0 0) PathRd.nil #[.int .i64 6, .int .i64 0, .string ⟨#[]⟩, .slice none 0 0, .string ⟨#[]⟩, .int .i64 0] rfl rfl (by omega) ?_; intro v14 w14 hv14 hb14 hk14; have HV14 := Lib.hid hv14; have HB14 := Lib.hid hb14; clear hv14 hb14 hk14)
              go_wp2_with fail
              refine ⟨⟨j + 1, by go_num, by omega, by rw [HS5.out]; exact HV14.out, HBB7.out.trans (HB713.out.trans HB14.out)⟩, by simp [intOf]; omega⟩
        · have hqf : (Part.mk p ks os).flat = [p] := by
            unfold Part.flat
            rw [if_neg (by unfold blockK; rw [← HKD.out]; intro h; rw [Bool.or_eq_true, beq_iff_eq, beq_iff_eq] at h; exact hK h)]
          have hsn := HSN.out
          rw [hqf] at hsn
          have HSN2 := Lib.hid hsn
          have k3 : (kd == 3) = false := by rw [beq_eq_false_iff_ne]; exact fun h => hK (.inl h)
          have k4 : (kd == 4) = false := by rw [beq_eq_false_iff_ne]; exact fun h => hK (.inr h)
          clear hqf hsn HSN hK HKD
          go_wp2_with fail
          refine ⟨⟨j + 1, by go_num, by omega, by rw [HSN2.out]; exact HV7.out, HBB7.out⟩, by simp [intOf]; omega⟩
      · obtain rfl : j = n := by omega
        have tj : decide ((j : Int) < (j : Int)) = false := by rw [decide_eq_false_iff_not]; omega
        have hr : flats (ps.take j) = R := by rw [HR.out, List.take_of_length_le (by rw [← Hn.out]; exact Nat.le_refl _)]
        rw [hr] at HV
        clear hr
        go_wp2_with fail
        go_ret
        exact ⟨_, rfl, HV.out, hbr⟩
end Go.Proofs.YthilkpjdfjjikaaDoor
