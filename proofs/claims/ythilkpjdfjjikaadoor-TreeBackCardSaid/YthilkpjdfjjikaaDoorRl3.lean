/-
  The document's Lex: the literal, a byte at a time.
-/
import Derived.Deep.CutBlock
import Derived.Deep.DeepCutAuto
import Derived.Deep.RegionHeld3
import Derived.Deep.DrawnRows
import Derived.BigRegion
import Derived.BigQuiet
import Derived.StillTailTactics
import Derived.Outline
import Derived.IntWalk
import Derived.Test.YthilkpjdfjjikaaDoorRtnM
set_option linter.unusedVariables false
set_option linter.unusedSimpArgs false
namespace Go.Proofs.YthilkpjdfjjikaaDoor
open Go.RowKit
attribute [local go_sem ↓] Go.wp_at_zero Go.wp_at_succ

def inLoops : Code → List Code
  | .loop c => .loop c :: inLoops c
  | .seq a b => inLoops a ++ inLoops b
  | .block _ c => inLoops c
  | .scope c => inLoops c
  | .cond _ a b => inLoops a ++ inLoops b
  | _ => []
theorem litP_nil (k : Nat) (out : List Piece) : litP k [] out = out := by unfold litP; rw [if_pos rfl]
theorem last_or {α : Type} (l : List α) : l = [] ∨ ∃ o p, l = o ++ [p] := by
  cases h : l with
  | nil => exact .inl rfl
  | cons a r => exact .inr ⟨(a :: r).dropLast, (a :: r).getLast (by simp), (List.dropLast_concat_getLast (by simp)).symm⟩
theorem PRow.drewN {w : World} {B : Nat} {v : Value} {ps : List Piece} (h : PRow w B v ps) (k : Nat) : PRow (w.drewN k) B v ps := h
theorem PRow.form1 {w : World} {B : Nat} {v : Value} {ps : List Piece} (h : PRow w B v ps) (n : Nat) (hn : ps.length = n + 1) : ∃ g c, v = .slice (some ⟨g, 0, none⟩) (n + 1) c ∧ B ≤ g ∧ g < w.heap.size ∧ n + 1 ≤ c := by
  obtain ⟨qs, e, ho, _⟩ := h
  rw [hn] at ho
  obtain ⟨A, c, rfl, hc, _⟩ := own_form ho
  obtain ⟨g, rfl, h1, h2⟩ := own_some ho (by omega)
  exact ⟨g, c, rfl, h1, h2, hc⟩
noncomputable def rlp3 : Code := ((Tryd.f13.body.map inLoops).getD []).getD 2 .skip
noncomputable def rlp2 : Code := ((Tryd.f13.body.map inLoops).getD []).getD 1 .skip
noncomputable def rlp1 : Code := ((Tryd.f13.body.map inLoops).getD []).getD 0 .skip
/-- A walk's cells, stored anew. -/
theorem walk_stored {w : World} {g : Nat} {a0 a1 a2 a3 a4 a5 : Value} (h : Blk w g 69 [a0, a1, a2, a3, a4, a5]) (b0 b1 b2 b3 b4 b5 : Value) :
    Blk ((((((w.setCell ⟨g, 0, none⟩ b0).setCell ⟨g, 1, none⟩ b1).setCell ⟨g, 2, none⟩ b2).setCell ⟨g, 3, none⟩ b3).setCell ⟨g, 4, none⟩ b4).setCell ⟨g, 5, none⟩ b5) g 69 [b0, b1, b2, b3, b4, b5] ∧
    w.grownBy ((((((w.setCell ⟨g, 0, none⟩ b0).setCell ⟨g, 1, none⟩ b1).setCell ⟨g, 2, none⟩ b2).setCell ⟨g, 3, none⟩ b3).setCell ⟨g, 4, none⟩ b4).setCell ⟨g, 5, none⟩ b5) (some g) :=
  ⟨blk_set (blk_set (blk_set (blk_set (blk_set (blk_set h 0 b0) 1 b1) 2 b2) 3 b3) 4 b4) 5 b5, ((((gb_set w g 0 b0).trans (gb_set _ g 1 b1)).trans (gb_set _ g 2 b2)).trans (gb_set _ g 3 b3)).trans ((gb_set _ g 4 b4).trans (gb_set _ g 5 b5))⟩
theorem below_grown {w0 w w' : World} {B g : Nat} (h : Below B w0 w) (hB : B ≤ w.heap.size) (hg : w.grownBy w' (some g)) (hgB : B ≤ g) : Below B w0 w' :=
  h.trans ⟨hg.os, hg.tape, hg.output, hg.size, fun i hi => hg.block i (by omega) (by intro e; injection e with e; omega)⟩
/-- The way out is this one. -/
def OnlyX (n : Nat) (K : Act → World → Prop) : Exit → Act → World → Prop
  | .exit m, a, w => m = n ∧ K a w
  | _, _, _ => False
theorem OnlyX.mono {n : Nat} {K : Act → World → Prop} {P : Program} {c : Code} {Q : Exit → Act → World → Prop} {a : Act} {w : World} (h : Code.wp P c (OnlyX n K) a w) (hq : ∀ a w, K a w → Q (.exit n) a w) : Code.wp P c Q a w := by
  refine Code.wp_mono ?_ h
  intro e a w he
  cases e <;> first | exact absurd he id | (obtain ⟨rfl, hk⟩ := he; exact hq _ _ hk)
set_option maxHeartbeats 8000000 in
set_option maxRecDepth 1000000 in
theorem rloop3 (u1 u2 u3 u4 u5 u6 u7 u12 u13 u14 u15 u16 u17 u18 u19 u20 u21 u22 u23 u24 u25 u26 u27 u28 u29 u30 u31 u32 u33 u34 u35 u36 u37 u38 u39 u40 u41 u42 u43 u44 u45 u46 u47 u48 u49 u50 u51 u52 u53 u54 u55 u56 u57 u58 u59 u60 u61 u62 u63 u64 u65 u66 u67 u68 u69 u70 u71 u72 u73 u74 u75 u76 u77 u78 u79 u80 u81 u82 u83 u84 u85 u86 u87 u88 u89 u90 u91 u92 u93 u94 u95 u96 u97 u98 u99 u100 u101 u102 u103 u104 u105 u106 u107 u108 u109 u110 u111 u112 u113 u114 u115 u116 u117 u118 u119 u120 u121 u122 u123 u124 u125 u126 u127 u128 u129 u130 u131 u132 u133 u134 u135 u136 u137 u138 u139 u140 u141 u142 u143 u144 u145 u146 u147 u148 u149 u150 u151 u152 u153 u154 u155 u156 u157 u158 u159 u160 u161 u162 u163 u164 u165 u166 u167 u168 u169 : Value) (v0 : Value) (S : ByteArray) (s lit : Bs) (g k B : Nat) (out : List Piece) (x : Walk) (w : World)
    (HS : Hid (S = bs s)) (HL : Hid (∀ j, j < lit.length → s.getD (k + j) 0 = lit.getD j 0)) (hkl : k + lit.length ≤ s.length) (hsl : s.length ≤ 20000) (HO : Hid (∀ p ∈ out.getLast?, p.kind ≠ 0))
    (hol : out.length ≤ 20000) (m : Mach) (HM : Hid (RelM x m)) (hsz : szW x ≤ 100000)
    (HP : Hid (PRow w B v0 out)) (HB : Hid (Blk w g 69 (wcells x))) (hg : B ≤ g) (hBw : B ≤ w.heap.size)
    (Q : Act → World → Prop)
    (hK : ∀ (v9 v12 v46 v47 v48 v49 v50 v51 v52 v53 v54 v55 v56 v57 v58 v59 v60 v61 v62 v63 v64 v65 v66 v67 v68 v69 v70 v71 v72 v73 v74 v75 v76 v77 v78 v79 v80 v81 v82 v83 v84 v85 v86 v87 v88 v89 v90 v91 v92 v93 v94 v95 v96 v97 v98 v99 v100 v101 v102 v103 v104 v105 v106 v107 v108 v109 v110 : Value) (w' : World), PRow w' B v9 (litP k lit out) → Blk w' g 69 (wcells (lit.foldl stepW x)) → Below B w w' → Q { tmps := List.toArray (.string S :: u1 :: u2 :: u3 :: u4 :: u5 :: u6 :: u7 :: .pointer (some ⟨g, 0, none⟩) :: v9 :: .int .i64 ((k + lit.length : Nat) : Int) :: .int .i64 ((k + lit.length : Nat) : Int) :: v12 :: u13 :: u14 :: u15 :: u16 :: u17 :: u18 :: u19 :: u20 :: u21 :: u22 :: u23 :: u24 :: u25 :: u26 :: u27 :: u28 :: u29 :: u30 :: u31 :: u32 :: u33 :: u34 :: u35 :: u36 :: u37 :: u38 :: u39 :: u40 :: u41 :: u42 :: u43 :: u44 :: u45 :: v46 :: v47 :: v48 :: v49 :: v50 :: v51 :: v52 :: v53 :: v54 :: v55 :: v56 :: v57 :: v58 :: v59 :: v60 :: v61 :: v62 :: v63 :: v64 :: v65 :: v66 :: v67 :: v68 :: v69 :: v70 :: v71 :: v72 :: v73 :: v74 :: v75 :: v76 :: v77 :: v78 :: v79 :: v80 :: v81 :: v82 :: v83 :: v84 :: v85 :: v86 :: v87 :: v88 :: v89 :: v90 :: v91 :: v92 :: v93 :: v94 :: v95 :: v96 :: v97 :: v98 :: v99 :: v100 :: v101 :: v102 :: v103 :: v104 :: v105 :: v106 :: v107 :: v108 :: v109 :: v110 :: u111 :: u112 :: u113 :: u114 :: u115 :: u116 :: u117 :: u118 :: u119 :: u120 :: u121 :: u122 :: u123 :: u124 :: u125 :: u126 :: u127 :: u128 :: u129 :: u130 :: u131 :: u132 :: u133 :: u134 :: u135 :: u136 :: u137 :: u138 :: u139 :: u140 :: u141 :: u142 :: u143 :: u144 :: u145 :: u146 :: u147 :: u148 :: u149 :: u150 :: u151 :: u152 :: u153 :: u154 :: u155 :: u156 :: u157 :: u158 :: u159 :: u160 :: u161 :: u162 :: u163 :: u164 :: u165 :: u166 :: u167 :: u168 :: u169 :: []), defers := [] } w') :
    Code.wp Tryd.prog rlp3 (OnlyX 4 Q) { tmps := List.toArray (.string S :: u1 :: u2 :: u3 :: u4 :: u5 :: u6 :: u7 :: .pointer (some ⟨g, 0, none⟩) :: v0 :: .int .i64 (k : Int) :: .int .i64 ((k + lit.length : Nat) : Int) :: u12 :: u13 :: u14 :: u15 :: u16 :: u17 :: u18 :: u19 :: u20 :: u21 :: u22 :: u23 :: u24 :: u25 :: u26 :: u27 :: u28 :: u29 :: u30 :: u31 :: u32 :: u33 :: u34 :: u35 :: u36 :: u37 :: u38 :: u39 :: u40 :: u41 :: u42 :: u43 :: u44 :: u45 :: u46 :: u47 :: u48 :: u49 :: u50 :: u51 :: u52 :: u53 :: u54 :: u55 :: u56 :: u57 :: u58 :: u59 :: u60 :: u61 :: u62 :: u63 :: u64 :: u65 :: u66 :: u67 :: u68 :: u69 :: u70 :: u71 :: u72 :: u73 :: u74 :: u75 :: u76 :: u77 :: u78 :: u79 :: u80 :: u81 :: u82 :: u83 :: u84 :: u85 :: u86 :: u87 :: u88 :: u89 :: u90 :: u91 :: u92 :: u93 :: u94 :: u95 :: u96 :: u97 :: u98 :: u99 :: u100 :: u101 :: u102 :: u103 :: u104 :: u105 :: u106 :: u107 :: u108 :: u109 :: u110 :: u111 :: u112 :: u113 :: u114 :: u115 :: u116 :: u117 :: u118 :: u119 :: u120 :: u121 :: u122 :: u123 :: u124 :: u125 :: u126 :: u127 :: u128 :: u129 :: u130 :: u131 :: u132 :: u133 :: u134 :: u135 :: u136 :: u137 :: u138 :: u139 :: u140 :: u141 :: u142 :: u143 :: u144 :: u145 :: u146 :: u147 :: u148 :: u149 :: u150 :: u151 :: u152 :: u153 :: u154 :: u155 :: u156 :: u157 :: u158 :: u159 :: u160 :: u161 :: u162 :: u163 :: u164 :: u165 :: u166 :: u167 :: u168 :: u169 :: []), defers := [] } w := by
  have HK := Lib.hid hK; clear hK
  conv => arg 2; whnf
  have hz : S.size = s.length := by rw [HS.out]; exact bs_size s
  go_loopw [9, 10] (fun v i w' => ∃ j : Nat, j ≤ lit.length ∧ i = .int .i64 ((k + j : Nat) : Int) ∧ PRow w' B v (litP k (lit.take j) out) ∧ Blk w' g 69 (wcells ((lit.take j).foldl stepW x)) ∧ Below B w w')
    (fun _ i _ => k + lit.length - (intOf i).toNat)
  case atStart => exact ⟨0, Nat.zero_le _, rfl, HP.out, HB.out, Below.refl _ _⟩
  case round =>
    obtain ⟨j, hj, rfl, hp, hb, hbw⟩ := hrel
    have HPj := Lib.hid hp; have HBj := Lib.hid hb; have HWj := Lib.hid hbw
    clear hp hb hbw
    by_cases hjl : j < lit.length
    · have hsb := fun W => str_byte s (k + j) (by omega) W
      have hsc := fun W => str_cut s (k + j) (k + j + 1) (by omega) (by omega) W
      have hcb := HL.out j hjl
      have hcc : (s.take (k + j + 1)).drop (k + j) = [lit.getD j 0] := by
        rw [take_snoc_B s (k + j) (by omega), List.drop_append_of_le_length (by rw [List.length_take]; omega), List.drop_of_length_le (by rw [List.length_take]; omega), hcb]; rfl
      rw [hcb] at hsb
      rw [hcc] at hsc
      rw [show ((k + j + 1 : Nat) : Int) = ((k + j : Nat) : Int) + 1 from by omega] at hsc
      rw [← HS.out] at hsb hsc
      have hfs := fold_snocW lit j hjl x
      have hlt : lit.take (j + 1) = lit.take j ++ [lit.getD j 0] := take_snoc_B lit j hjl
      have hszj := szW_fold (lit.take j) x
      have hrj := rel_fold (lit.take j) x m HM.out
      have hstj : ((lit.take j).foldl stepW x).st ≤ 12 := by rw [hrj.st]; exact hrj.le
      have htl : (lit.take j).length = j := by rw [List.length_take]; omega
      obtain ⟨y, hy⟩ : ∃ y, y = (lit.take j).foldl stepW x := ⟨_, rfl⟩
      rw [← hy] at hfs hszj hstj HBj
      have h33 := fun W => stepR_any y (lit.getD j 0) hstj (by omega) W
      obtain ⟨i, hi⟩ : ∃ i, i = k + j := ⟨_, rfl⟩
      obtain ⟨K, hK⟩ : ∃ K, K = k + lit.length := ⟨_, rfl⟩
      have hiK : i < K := by omega
      have hK2 : K ≤ 20000 := by omega
      rw [← hi] at hsb hsc ⊢
      rw [← hK] at hkl HK ⊢
      have tj : decide ((i : Int) < (K : Int)) = true := by rw [decide_eq_true_eq]; omega
      obtain ⟨p0, p1, p2, p3, p4, p5, hY⟩ : ∃ p0 p1 p2 p3 p4 p5, wcells y = [.string p0, .string p1, .string p2, .string p3, .int .u8 p4, .bool p5] := ⟨_, _, _, _, _, _, rfl⟩
      obtain ⟨r0, r1, r2, r3, r4, r5, hZ⟩ : ∃ r0 r1 r2 r3 r4 r5, wcells (stepW y (lit.getD j 0)) = [.string r0, .string r1, .string r2, .string r3, .int .u8 r4, .bool r5] := ⟨_, _, _, _, _, _, rfl⟩
      simp only [walkV, hY, hZ] at h33
      rw [hY] at HBj
      have HZ := Lib.hid hZ
      have H33 := Lib.hid h33; have HFS := Lib.hid hfs; have HLT := Lib.hid hlt; have HTL := Lib.hid htl
      have Hi := Lib.hid hi; have HKe := Lib.hid hK
      obtain ⟨c, hc⟩ : ∃ c, c = lit.getD j 0 := ⟨_, rfl⟩
      rw [← hc] at hsb hsc H33 HFS HLT HZ
      have Hc := Lib.hid hc; have Hy := Lib.hid hy
      clear hY hZ hrj hcb hcc hfs hlt hszj htl hi hK hc hy h33
      by_cases hj0 : j = 0
      · subst hj0
        rw [List.take_zero, litP_nil] at HPj
        rcases last_or out with rfl | ⟨o, p, rfl⟩
        · obtain ⟨A, cap, rfl, _⟩ : ∃ A cap, u9 = .slice A 0 cap ∧ 0 ≤ cap := HPj.out.form
          obtain ⟨qs, hq1, hq2, hq3⟩ : ∃ qs : List (Piece × Value), qs.map (·.1) = [] ∧ wr.ownsRow B 35 6 (.slice A 0 cap) 0 (qs.flatMap pcell) ∧ ∀ q ∈ qs, wr.ownsRow B 9 1 q.2 q.1.path.length (strs q.1.path) := HPj.out
          have HQ2 := Lib.hid hq2; have HQ1 := Lib.hid hq1; have HQ3 := Lib.hid hq3
          have hwr : B ≤ wr.heap.size := Nat.le_trans hBw HWj.out.size
          clear hq1 hq2 hq3
          go_wp2_with fail
          go_quiet (fail)
          go_wp2_with (at_builtin; refine wpList_pushG rfl (.tmp 96) (.tmp 104) 23 rfl B 35 (.agg #[.int .i64 0, .int .i64 0, .string ⟨#[]⟩, .slice none 0 0, .string ⟨#[]⟩, .int .i64 0]) 6 80 Tryd.underlying23 (by kernel_rfl) rfl (by decide) (.slice A 0 cap) 0 _ rfl (own_drewN HQ2.out _) _ 1 (by decide) rfl rfl (by simp [Value.oneCell']) (by omega) (by omega) hwr ?_; intro g4 cap4 w4 hown4 hg4 hb4 hgr4; have Hown4 := Lib.hid hown4; have HG4 := Lib.hid hgr4; have HB4 := Lib.hid hb4; clear hown4 hgr4 hb4)
          have hp5 : PRow w4 B (.slice (some ⟨g4, 0, none⟩) 1 cap4) (litP k (lit.take (0 + 1)) []) := by
            rw [HLT.out, List.take_zero, List.nil_append, litP_some _ _ _ (by simp), List.nil_append]
            have := PRow.pushed (w := wr.drewN nq) qs HQ1.out (own_drewN HQ2.out _) (fun q hq => own_drewN (HQ3.out q hq) _) ⟨0, k, [c], [], [], 0⟩ (.slice none 0 0) (World.ownsRow_nil _ _ _ _) HG4.out (by have e := Hown4.out; rw [show (i : Int) = (k : Int) from by have := Hi.out; omega] at e; exact e)
            exact this
          have hb5 : Blk w4 g 69 [.string p0, .string p1, .string p2, .string p3, .int .u8 p4, .bool p5] := by
            refine blk_grown (w := wr.drewN nq) HBj.out HG4.out (fun g' hg' => ?_)
            obtain ⟨cur, hc⟩ := own_block HQ2.out hg'
            exact ⟨cur, 35, (0, 0), hc, by decide⟩
          have hw5 : Below B w w4 := (HWj.out.trans (drew_below _ _ _)).trans HB4.out
          have HP5 := Lib.hid hp5; have HB5 := Lib.hid hb5; have HW5 := Lib.hid hw5
          have c0 := blk_cell HB5.out 0; have c1 := blk_cell HB5.out 1; have c2 := blk_cell HB5.out 2; have c3 := blk_cell HB5.out 3; have c4 := blk_cell HB5.out 4; have c5 := blk_cell HB5.out 5
          simp only [List.getElem?_cons_zero, List.getElem?_cons_succ] at c0 c1 c2 c3 c4 c5
          have hs4 : wr.heap.size ≤ w4.heap.size := HG4.out.size
          clear hp5 hb5 hw5 Hown4 HG4 HB4 HQ1 HQ2 HQ3 HPj HBj
          go_region_with (go_at_call 33; refine (H33.out _).mono ?_; rintro e w6 ⟨rfl, hb6⟩; have hb7 := blk_below (w := w4.drew) HB5.out hb6 (blk_lt HB5.out); have k0 := blk_cell hb7 0; have k1 := blk_cell hb7 1; have k2 := blk_cell hb7 2; have k3 := blk_cell hb7 3; have k4 := blk_cell hb7 4; have k5 := blk_cell hb7 5; have l0 := blk_frozen hb7 0; have l1 := blk_frozen hb7 1; have l2 := blk_frozen hb7 2; have l3 := blk_frozen hb7 3; have l4 := blk_frozen hb7 4; have l5 := blk_frozen hb7 5; simp only [List.getElem?_cons_zero, List.getElem?_cons_succ] at k0 k1 k2 k3 k4 k5)
          all_goals
            obtain ⟨hf1, hf2⟩ := walk_stored hb7 (.string r0) (.string r1) (.string r2) (.string r3) (.int .u8 r4) (.bool r5)
            have hpf := ((HP5.out.drewN 1).below hb6).grown hf2 hb7 (by decide) (by decide)
            have hwf := below_grown (HW5.out.drew.trans (hb6.mono (by show B ≤ w4.heap.size; exact Nat.le_trans hwr hs4))) (Nat.le_trans hwr (Nat.le_trans hs4 hb6.size)) hf2 hg
            have HPf := Lib.hid hpf; have HFf := Lib.hid hf1; have HWf := Lib.hid hwf
            clear k0 k1 k2 k3 k4 k5 l0 l1 l2 l3 l4 l5 hf1 hf2 hpf hwf hb6 hb7 c0 c1 c2 c3 c4 c5
            go_wp2_with fail
            refine ⟨⟨0 + 1, by omega, by have := Hi.out; go_num, HPf.out, by rw [HFS.out, HZ.out]; exact HFf.out, HWf.out⟩, by have := HKe.out; have := Hi.out; simp [intOf]; omega⟩
        · obtain ⟨gp, cap, rfl, hgp, hgs, hcap⟩ := HPj.out.form1 o.length (by simp)
          obtain ⟨e0, e1, e2, e3⟩ := HPj.out.last rfl
          have hpk : p.kind ≠ 0 := HO.out p (by simp)
          have tk : ((p.kind : Int) == 0) = false := by rw [beq_eq_false_iff_ne]; omega
          have hon : o.length ≤ 20000 := by simp at hol; omega
          obtain ⟨n, hn⟩ : ∃ n, n = o.length := ⟨_, rfl⟩
          have Hn := Lib.hid hn
          rw [← hn] at e0 e1 e2 e3 hon hcap ⊢
          have hpn : ∃ qs : List (Piece × Value), qs.map (·.1) = o ++ [p] ∧ wr.ownsRow B 35 6 (.slice (some ⟨gp, 0, none⟩) (n + 1) cap) (n + 1) (qs.flatMap pcell) ∧ ∀ q ∈ qs, wr.ownsRow B 9 1 q.2 q.1.path.length (strs q.1.path) := by
            obtain ⟨qs, h1, h2, h3⟩ := HPj.out
            rw [show (o ++ [p]).length = n + 1 from by simp [hn]] at h2
            rw [← hn] at h2
            exact ⟨qs, h1, h2, h3⟩
          have HPn := Lib.hid hpn
          clear hn hpk hol hpn
          obtain ⟨qs, hq1, hq2, hq3⟩ : ∃ qs : List (Piece × Value), qs.map (·.1) = o ++ [p] ∧ wr.ownsRow B 35 6 (.slice (some ⟨gp, 0, none⟩) (n + 1) cap) (n + 1) (qs.flatMap pcell) ∧ ∀ q ∈ qs, wr.ownsRow B 9 1 q.2 q.1.path.length (strs q.1.path) := HPn.out
          have HQ2 := Lib.hid hq2; have HQ1 := Lib.hid hq1; have HQ3 := Lib.hid hq3
          have hwr : B ≤ wr.heap.size := Nat.le_trans hBw HWj.out.size
          clear hq1 hq2 hq3
          go_wp2_with fail
          go_quiet (fail)
          go_wp2_with (at_builtin; refine wpList_pushG rfl (.tmp 96) (.tmp 104) 23 rfl B 35 (.agg #[.int .i64 0, .int .i64 0, .string ⟨#[]⟩, .slice none 0 0, .string ⟨#[]⟩, .int .i64 0]) 6 80 Tryd.underlying23 (by kernel_rfl) rfl (by decide) (.slice (some ⟨gp, 0, none⟩) (n + 1) cap) (n + 1) _ rfl (own_drewN HQ2.out _) _ 1 (by decide) rfl rfl (by simp [Value.oneCell']) (by omega) (by omega) hwr ?_; intro g4 cap4 w4 hown4 hg4 hb4 hgr4; have Hown4 := Lib.hid hown4; have HG4 := Lib.hid hgr4; have HB4 := Lib.hid hb4; clear hown4 hgr4 hb4)
          have hp5 : PRow w4 B (.slice (some ⟨g4, 0, none⟩) (n + 1 + 1) cap4) (litP k (lit.take (0 + 1)) (o ++ [p])) := by
            rw [HLT.out, List.take_zero, List.nil_append, litP_some _ _ _ (by simp)]
            have := PRow.pushed (w := wr.drewN nq) qs HQ1.out (by have := own_drewN HQ2.out nq; rw [show (o ++ [p]).length = n + 1 from by rw [Hn.out]; simp]; exact this) (fun q hq => own_drewN (HQ3.out q hq) _) ⟨0, k, [c], [], [], 0⟩ (.slice none 0 0) (World.ownsRow_nil _ _ _ _) HG4.out (by have e := Hown4.out; rw [show (i : Int) = (k : Int) from by have := Hi.out; omega] at e; rw [show (o ++ [p]).length = n + 1 from by rw [Hn.out]; simp]; exact e)
            exact this
          have hb5 : Blk w4 g 69 [.string p0, .string p1, .string p2, .string p3, .int .u8 p4, .bool p5] := by
            refine blk_grown (w := wr.drewN nq) HBj.out HG4.out (fun g' hg' => ?_)
            obtain ⟨cur, hc⟩ := own_block HQ2.out hg'
            exact ⟨cur, 35, (0, 0), hc, by decide⟩
          have hw5 : Below B w w4 := (HWj.out.trans (drew_below _ _ _)).trans HB4.out
          have HP5 := Lib.hid hp5; have HB5 := Lib.hid hb5; have HW5 := Lib.hid hw5
          have c0 := blk_cell HB5.out 0; have c1 := blk_cell HB5.out 1; have c2 := blk_cell HB5.out 2; have c3 := blk_cell HB5.out 3; have c4 := blk_cell HB5.out 4; have c5 := blk_cell HB5.out 5
          simp only [List.getElem?_cons_zero, List.getElem?_cons_succ] at c0 c1 c2 c3 c4 c5
          have hs4 : wr.heap.size ≤ w4.heap.size := HG4.out.size
          clear hp5 hb5 hw5 Hown4 HG4 HB4 HQ1 HQ2 HQ3 HPj HBj
          go_region_with (go_at_call 33; refine (H33.out _).mono ?_; rintro e w6 ⟨rfl, hb6⟩; have hb7 := blk_below (w := w4.drew) HB5.out hb6 (blk_lt HB5.out); have k0 := blk_cell hb7 0; have k1 := blk_cell hb7 1; have k2 := blk_cell hb7 2; have k3 := blk_cell hb7 3; have k4 := blk_cell hb7 4; have k5 := blk_cell hb7 5; have l0 := blk_frozen hb7 0; have l1 := blk_frozen hb7 1; have l2 := blk_frozen hb7 2; have l3 := blk_frozen hb7 3; have l4 := blk_frozen hb7 4; have l5 := blk_frozen hb7 5; simp only [List.getElem?_cons_zero, List.getElem?_cons_succ] at k0 k1 k2 k3 k4 k5)
          all_goals
            obtain ⟨hf1, hf2⟩ := walk_stored hb7 (.string r0) (.string r1) (.string r2) (.string r3) (.int .u8 r4) (.bool r5)
            have hpf := ((HP5.out.drewN 1).below hb6).grown hf2 hb7 (by decide) (by decide)
            have hwf := below_grown (HW5.out.drew.trans (hb6.mono (by show B ≤ w4.heap.size; exact Nat.le_trans hwr hs4))) (Nat.le_trans hwr (Nat.le_trans hs4 hb6.size)) hf2 hg
            have HPf := Lib.hid hpf; have HFf := Lib.hid hf1; have HWf := Lib.hid hwf
            clear k0 k1 k2 k3 k4 k5 l0 l1 l2 l3 l4 l5 hf1 hf2 hpf hwf hb6 hb7 c0 c1 c2 c3 c4 c5
            go_wp2_with fail
            refine ⟨⟨0 + 1, by omega, by have := Hi.out; go_num, HPf.out, by rw [HFS.out, HZ.out]; exact HFf.out, HWf.out⟩, by have := HKe.out; have := Hi.out; simp [intOf]; omega⟩
      · have hne : lit.take j ≠ [] := by intro e; have := HTL.out; rw [e] at this; simp at this; omega
        rw [litP_some _ _ _ hne] at HPj
        obtain ⟨gp, cap, rfl, hgp, hgs, hcap⟩ := HPj.out.form1 out.length (by simp)
        obtain ⟨e0, e1, e2, e3⟩ := HPj.out.last rfl
        have hon : out.length ≤ 20000 := hol
        have ti : (k : Int) + (j : Int) = (i : Int) := by have := Hi.out; omega
        obtain ⟨n, hn⟩ : ∃ n, n = out.length := ⟨_, rfl⟩
        have Hn := Lib.hid hn
        rw [← hn] at e0 e1 e2 e3 hon hcap ⊢
        have hzt : (bs (lit.take j)).size = j := by rw [bs_size]; exact HTL.out
        have hca : bs (lit.take j) ++ bs [c] = bs (lit.take (j + 1)) := by rw [HLT.out]; exact bs_cat _ _
        have HCA := Lib.hid hca
        dsimp only at e0 e1 e2
        obtain ⟨T, hT⟩ : ∃ T, T = bs (lit.take j) := ⟨_, rfl⟩
        rw [← hT] at hzt HCA e2
        have HT := Lib.hid hT
        clear hn hne hol hca hT
        go_wp2_with fail
        go_quiet (fail)
        go_wp2_with fail
        have hPW : PRow (wr.drewN nq) B (.slice (some ⟨gp, 0, none⟩) (n + 1) cap) (out ++ [⟨0, k, lit.take j, [], [], 0⟩]) := by
          have := HPj.out; rw [← Hn.out] at this; exact this
        have hBW : Blk (wr.drewN nq) g 69 [.string p0, .string p1, .string p2, .string p3, .int .u8 p4, .bool p5] := HBj.out
        have hWW : Below B w (wr.drewN nq) := HWj.out.trans (drew_below _ _ _)
        obtain ⟨W, hW⟩ : ∃ W, W = wr.drewN nq := ⟨_, rfl⟩
        have f2 : W.cell? ⟨gp, n * 6 + 2, none⟩ = some (.string T) := by rw [hW]; exact e2
        have f3 : W.frozen? ⟨gp, n * 6 + 2, none⟩ = false := by rw [hW]; exact e3
        have hwr : B ≤ W.heap.size := by rw [hW]; exact Nat.le_trans hBw HWj.out.size
        rw [← hW] at hPW hBW hWW ⊢
        have HPW := Lib.hid hPW; have HBW := Lib.hid hBW; have HWW := Lib.hid hWW
        clear e0 e1 e2 e3 hW hPW hBW hWW HPj HBj
        have g1 : IntKind.i64.wrap ((n : Int) + 1 - 1) = (n : Int) := by rw [show (n : Int) + 1 - 1 = n from by omega]; exact IntWalk.i64_in _ (by omega)
        have g2 : IntKind.i64.wrap (n : Int) = (n : Int) := IntWalk.i64_in _ (by omega)
        have g3 : IntKind.i64.wrap ((i : Int) + 1) = (i : Int) + 1 := IntWalk.i64_in _ (by omega)
        have g4 : (0 : Int) ≤ (n : Int) := by omega
        have g7 : (bs [c]).size = 1 := rfl
        have g8 : ¬ (9223372036854775807 < j + 1) := by omega
        have g9 : ¬ (9223372036854775807 < j + (bs [c]).size) := by rw [g7]; omega
        have g10 : ¬ (9223372036854775807 ≤ j) := by omega
        have g5 : (n : Int) < (n : Int) + 1 := by omega
        have g6 : ((n : Int)).toNat = n := by omega
        go_still_tail 14, (by kernel_rfl)
        clear g1 g2 g3 g4 g5 g6 g7 g8 g9 g10
        change wpList _ _ _ _ _ W.drew
        go_wp2_with fail
        rw [HCA.out]
        have hret := HPW.out.retext (by exact Hn.out) (lit.take (j + 1))
        have hb5 : Blk (W.setCell ⟨gp, n * 6 + 2, none⟩ (.string (bs (lit.take (j + 1))))).drew g 69 [.string p0, .string p1, .string p2, .string p3, .int .u8 p4, .bool p5] := by
          refine blk_drew (blk_grown HBW.out hret.2 (fun g' hg' => ?_))
          obtain ⟨qs, _, ho, _⟩ := HPW.out
          cases hg'
          obtain ⟨cur, hc⟩ := own_block ho rfl
          exact ⟨cur, 35, (0, 0), hc, by decide⟩
        have hp5 : PRow (W.setCell ⟨gp, n * 6 + 2, none⟩ (.string (bs (lit.take (j + 1))))).drew B (.slice (some ⟨gp, 0, none⟩) (n + 1) cap) (litP k (lit.take (j + 1)) out) := by
          rw [litP_some _ _ _ (by rw [HLT.out]; simp)]; exact hret.1
        have hw5 : Below B w (W.setCell ⟨gp, n * 6 + 2, none⟩ (.string (bs (lit.take (j + 1))))).drew := (below_grown HWW.out hwr hret.2 hgp).drew
        have hs4 : W.heap.size ≤ (W.setCell ⟨gp, n * 6 + 2, none⟩ (.string (bs (lit.take (j + 1))))).drew.heap.size := hret.2.size
        obtain ⟨w4, hw4⟩ : ∃ w4, w4 = (W.setCell ⟨gp, n * 6 + 2, none⟩ (.string (bs (lit.take (j + 1))))).drew := ⟨_, rfl⟩
        rw [← hw4] at hb5 hp5 hw5 hs4 ⊢
        have HP5 := Lib.hid hp5; have HB5 := Lib.hid hb5; have HW5 := Lib.hid hw5
        clear hb5 hp5 hw5 hret hw4 f2 f3
        have c0 := blk_cell HB5.out 0; have c1 := blk_cell HB5.out 1; have c2 := blk_cell HB5.out 2; have c3 := blk_cell HB5.out 3; have c4 := blk_cell HB5.out 4; have c5 := blk_cell HB5.out 5
        simp only [List.getElem?_cons_zero, List.getElem?_cons_succ] at c0 c1 c2 c3 c4 c5
        go_region_with (go_at_call 33; refine (H33.out _).mono ?_; rintro e w6 ⟨rfl, hb6⟩; have hb7 := blk_below (w := w4.drew) HB5.out hb6 (blk_lt HB5.out); have k0 := blk_cell hb7 0; have k1 := blk_cell hb7 1; have k2 := blk_cell hb7 2; have k3 := blk_cell hb7 3; have k4 := blk_cell hb7 4; have k5 := blk_cell hb7 5; have l0 := blk_frozen hb7 0; have l1 := blk_frozen hb7 1; have l2 := blk_frozen hb7 2; have l3 := blk_frozen hb7 3; have l4 := blk_frozen hb7 4; have l5 := blk_frozen hb7 5; simp only [List.getElem?_cons_zero, List.getElem?_cons_succ] at k0 k1 k2 k3 k4 k5)
        all_goals
          obtain ⟨hf1, hf2⟩ := walk_stored hb7 (.string r0) (.string r1) (.string r2) (.string r3) (.int .u8 r4) (.bool r5)
          have hpf := ((HP5.out.drewN 1).below hb6).grown hf2 hb7 (by decide) (by decide)
          have hwf := below_grown (HW5.out.drew.trans (hb6.mono (by show B ≤ w4.heap.size; exact Nat.le_trans hwr hs4))) (Nat.le_trans hwr (Nat.le_trans hs4 hb6.size)) hf2 hg
          have HPf := Lib.hid hpf; have HFf := Lib.hid hf1; have HWf := Lib.hid hwf
          clear k0 k1 k2 k3 k4 k5 l0 l1 l2 l3 l4 l5 hf1 hf2 hpf hwf hb6 hb7 c0 c1 c2 c3 c4 c5
          go_wp2_with fail
          refine ⟨⟨j + 1, by omega, by have := Hi.out; go_num, HPf.out, by rw [HFS.out, HZ.out]; exact HFf.out, HWf.out⟩, by have := HKe.out; have := Hi.out; simp [intOf]; omega⟩
    · obtain rfl : j = lit.length := by omega
      have tj : decide (((k + lit.length : Nat) : Int) < ((k + lit.length : Nat) : Int)) = false := by rw [decide_eq_false_iff_not]; omega
      rw [List.take_length] at HPj HBj
      go_wp2_with fail
      exact ⟨rfl, HK.out _ _ _ _ _ _ _ _ _ _ _ _ _ _ _ _ _ _ _ _ _ _ _ _ _ _ _ _ _ _ _ _ _ _ _ _ _ _ _ _ _ _ _ _ _ _ _ _ _ _ _ _ _ _ _ _ _ _ _ _ _ _ _ _ _ _ _ wr HPj.out HBj.out HWj.out⟩
end Go.Proofs.YthilkpjdfjjikaaDoor
