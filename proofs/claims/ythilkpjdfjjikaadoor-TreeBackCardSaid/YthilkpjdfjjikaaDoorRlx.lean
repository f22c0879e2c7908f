/-
  The document's Lex, walked: the same pieces as the program's.
-/
import Derived.OwnWalk
import Derived.Test.YthilkpjdfjjikaaDoorLayM
import Derived.Test.YthilkpjdfjjikaaDoorRl3
set_option linter.unusedVariables false
set_option linter.unusedSimpArgs false
namespace Go.Proofs.YthilkpjdfjjikaaDoor
open Go.RowKit

theorem cut_parts (s sep lit rest : Bs) (more : Bool) (h : Lib.cut s sep = (lit, rest, more)) : lit = s.take lit.length ∧ (more = true → rest = s.drop (lit.length + sep.length)) := by
  have hr := cut_room s sep
  rw [h] at hr
  dsimp only at hr
  unfold Lib.cut at h
  by_cases hi : 0 ≤ Lib.index s sep
  · rw [if_pos hi] at h
    have := index_room sep s hi
    injection h with h1 h2
    injection h2 with h2 h3
    have hl : lit.length = (Lib.index s sep).toNat := by rw [← h1, List.length_take]; omega
    refine ⟨by rw [hl]; exact h1.symm, fun _ => by rw [hl]; exact h2.symm⟩
  · rw [if_neg hi] at h
    injection h with h1 h2
    injection h2 with h2 h3
    subst h1
    exact ⟨(List.take_length).symm, fun e => by rw [← h3] at e; cases e⟩
theorem getD_take {l : Bs} {k j : Nat} {t : Bs} (h : t = (l.drop k).take t.length) (hj : j < t.length) : l.getD (k + j) 0 = t.getD j 0 := by
  rw [h, List.getD_eq_getElem?_getD, List.getD_eq_getElem?_getD, List.getElem?_take_of_lt hj, List.getElem?_drop]
theorem seg_eq {l : Bs} {k : Nat} {t : Bs} (h : t = (l.drop k).take t.length) : (l.take (k + t.length)).drop k = t := by
  rw [List.drop_take, Nat.add_sub_cancel_left]; exact h.symm
theorem badL_step (s : Bs) (F m : Nat) (hm : m < s.length) (hF : s.length - m ≤ F + 1) (hb : badL s = badFrom (F + 1) (s.drop m) m) :
    ∃ x r, s.drop m = x :: r ∧ badL s = (if (readL (x :: r)).1 < 0 then some m else badFrom F (s.drop (m + (readL (x :: r)).2)) (m + (readL (x :: r)).2)) ∧ m + (readL (x :: r)).2 ≤ s.length ∧ 1 ≤ (readL (x :: r)).2 := by
  cases hd : s.drop m with
  | nil => have := congrArg List.length hd; rw [List.length_drop] at this; simp at this; omega
  | cons x r =>
    have hle := readL_le x r
    have hl : r.length + 1 = s.length - m := by have := congrArg List.length hd; rw [List.length_drop] at this; simpa using this.symm
    refine ⟨x, r, rfl, ?_, by omega, by omega⟩
    rw [hb, hd, badFrom]
    rw [← hd, List.drop_drop]
theorem rloop3x (u1 u2 u3 u4 u5 u6 u7 u12 u13 u14 u15 u16 u17 u18 u19 u20 u21 u22 u23 u24 u25 u26 u27 u28 u29 u30 u31 u32 u33 u34 u35 u36 u37 u38 u39 u40 u41 u42 u43 u44 u45 u46 u47 u48 u49 u50 u51 u52 u53 u54 u55 u56 u57 u58 u59 u60 u61 u62 u63 u64 u65 u66 u67 u68 u69 u70 u71 u72 u73 u74 u75 u76 u77 u78 u79 u80 u81 u82 u83 u84 u85 u86 u87 u88 u89 u90 u91 u92 u93 u94 u95 u96 u97 u98 u99 u100 u101 u102 u103 u104 u105 u106 u107 u108 u109 u110 u111 u112 u113 u114 u115 u116 u117 u118 u119 u120 u121 u122 u123 u124 u125 u126 u127 u128 u129 u130 u131 u132 u133 u134 u135 u136 u137 u138 u139 u140 u141 u142 u143 u144 u145 u146 u147 u148 u149 u150 u151 u152 u153 u154 u155 u156 u157 u158 u159 u160 u161 u162 u163 u164 u165 u166 u167 u168 u169 : Value) (v0 : Value) (S : ByteArray) (s lit : Bs) (g k B : Nat) (out : List Piece) (x : Walk) (w : World)
    (HS : Hid (S = bs s)) (HL : Hid (∀ j, j < lit.length → s.getD (k + j) 0 = lit.getD j 0)) (hkl : k + lit.length ≤ s.length) (hsl : s.length ≤ 20000) (HO : Hid (∀ p ∈ out.getLast?, p.kind ≠ 0))
    (hol : out.length ≤ 20000) (m : Mach) (HM : Hid (RelM x m)) (hsz : szW x ≤ 100000)
    (HP : Hid (PRow w B v0 out)) (HB : Hid (Blk w g 69 (wcells x))) (hg : B ≤ g) (hBw : B ≤ w.heap.size)
    (Q : Exit → Act → World → Prop)
    (hK : ∀ (v9 v12 v46 v47 v48 v49 v50 v51 v52 v53 v54 v55 v56 v57 v58 v59 v60 v61 v62 v63 v64 v65 v66 v67 v68 v69 v70 v71 v72 v73 v74 v75 v76 v77 v78 v79 v80 v81 v82 v83 v84 v85 v86 v87 v88 v89 v90 v91 v92 v93 v94 v95 v96 v97 v98 v99 v100 v101 v102 v103 v104 v105 v106 v107 v108 v109 v110 : Value) (w' : World), PRow w' B v9 (litP k lit out) → Blk w' g 69 (wcells (lit.foldl stepW x)) → Below B w w' → Q (.exit 4) { tmps := List.toArray (.string S :: u1 :: u2 :: u3 :: u4 :: u5 :: u6 :: u7 :: .pointer (some ⟨g, 0, none⟩) :: v9 :: .int .i64 ((k + lit.length : Nat) : Int) :: .int .i64 ((k + lit.length : Nat) : Int) :: v12 :: u13 :: u14 :: u15 :: u16 :: u17 :: u18 :: u19 :: u20 :: u21 :: u22 :: u23 :: u24 :: u25 :: u26 :: u27 :: u28 :: u29 :: u30 :: u31 :: u32 :: u33 :: u34 :: u35 :: u36 :: u37 :: u38 :: u39 :: u40 :: u41 :: u42 :: u43 :: u44 :: u45 :: v46 :: v47 :: v48 :: v49 :: v50 :: v51 :: v52 :: v53 :: v54 :: v55 :: v56 :: v57 :: v58 :: v59 :: v60 :: v61 :: v62 :: v63 :: v64 :: v65 :: v66 :: v67 :: v68 :: v69 :: v70 :: v71 :: v72 :: v73 :: v74 :: v75 :: v76 :: v77 :: v78 :: v79 :: v80 :: v81 :: v82 :: v83 :: v84 :: v85 :: v86 :: v87 :: v88 :: v89 :: v90 :: v91 :: v92 :: v93 :: v94 :: v95 :: v96 :: v97 :: v98 :: v99 :: v100 :: v101 :: v102 :: v103 :: v104 :: v105 :: v106 :: v107 :: v108 :: v109 :: v110 :: u111 :: u112 :: u113 :: u114 :: u115 :: u116 :: u117 :: u118 :: u119 :: u120 :: u121 :: u122 :: u123 :: u124 :: u125 :: u126 :: u127 :: u128 :: u129 :: u130 :: u131 :: u132 :: u133 :: u134 :: u135 :: u136 :: u137 :: u138 :: u139 :: u140 :: u141 :: u142 :: u143 :: u144 :: u145 :: u146 :: u147 :: u148 :: u149 :: u150 :: u151 :: u152 :: u153 :: u154 :: u155 :: u156 :: u157 :: u158 :: u159 :: u160 :: u161 :: u162 :: u163 :: u164 :: u165 :: u166 :: u167 :: u168 :: u169 :: []), defers := [] } w') :
    Code.wp Tryd.prog rlp3 Q { tmps := List.toArray (.string S :: u1 :: u2 :: u3 :: u4 :: u5 :: u6 :: u7 :: .pointer (some ⟨g, 0, none⟩) :: v0 :: .int .i64 (k : Int) :: .int .i64 ((k + lit.length : Nat) : Int) :: u12 :: u13 :: u14 :: u15 :: u16 :: u17 :: u18 :: u19 :: u20 :: u21 :: u22 :: u23 :: u24 :: u25 :: u26 :: u27 :: u28 :: u29 :: u30 :: u31 :: u32 :: u33 :: u34 :: u35 :: u36 :: u37 :: u38 :: u39 :: u40 :: u41 :: u42 :: u43 :: u44 :: u45 :: u46 :: u47 :: u48 :: u49 :: u50 :: u51 :: u52 :: u53 :: u54 :: u55 :: u56 :: u57 :: u58 :: u59 :: u60 :: u61 :: u62 :: u63 :: u64 :: u65 :: u66 :: u67 :: u68 :: u69 :: u70 :: u71 :: u72 :: u73 :: u74 :: u75 :: u76 :: u77 :: u78 :: u79 :: u80 :: u81 :: u82 :: u83 :: u84 :: u85 :: u86 :: u87 :: u88 :: u89 :: u90 :: u91 :: u92 :: u93 :: u94 :: u95 :: u96 :: u97 :: u98 :: u99 :: u100 :: u101 :: u102 :: u103 :: u104 :: u105 :: u106 :: u107 :: u108 :: u109 :: u110 :: u111 :: u112 :: u113 :: u114 :: u115 :: u116 :: u117 :: u118 :: u119 :: u120 :: u121 :: u122 :: u123 :: u124 :: u125 :: u126 :: u127 :: u128 :: u129 :: u130 :: u131 :: u132 :: u133 :: u134 :: u135 :: u136 :: u137 :: u138 :: u139 :: u140 :: u141 :: u142 :: u143 :: u144 :: u145 :: u146 :: u147 :: u148 :: u149 :: u150 :: u151 :: u152 :: u153 :: u154 :: u155 :: u156 :: u157 :: u158 :: u159 :: u160 :: u161 :: u162 :: u163 :: u164 :: u165 :: u166 :: u167 :: u168 :: u169 :: []), defers := [] } w :=
  OnlyX.mono (rloop3 u1 u2 u3 u4 u5 u6 u7 u12 u13 u14 u15 u16 u17 u18 u19 u20 u21 u22 u23 u24 u25 u26 u27 u28 u29 u30 u31 u32 u33 u34 u35 u36 u37 u38 u39 u40 u41 u42 u43 u44 u45 u46 u47 u48 u49 u50 u51 u52 u53 u54 u55 u56 u57 u58 u59 u60 u61 u62 u63 u64 u65 u66 u67 u68 u69 u70 u71 u72 u73 u74 u75 u76 u77 u78 u79 u80 u81 u82 u83 u84 u85 u86 u87 u88 u89 u90 u91 u92 u93 u94 u95 u96 u97 u98 u99 u100 u101 u102 u103 u104 u105 u106 u107 u108 u109 u110 u111 u112 u113 u114 u115 u116 u117 u118 u119 u120 u121 u122 u123 u124 u125 u126 u127 u128 u129 u130 u131 u132 u133 u134 u135 u136 u137 u138 u139 u140 u141 u142 u143 u144 u145 u146 u147 u148 u149 u150 u151 u152 u153 u154 u155 u156 u157 u158 u159 u160 u161 u162 u163 u164 u165 u166 u167 u168 u169 v0 S s lit g k B out x w HS HL hkl hsl HO hol m HM hsz HP HB hg hBw (fun a w => Q (.exit 4) a w) hK) (fun _ _ h => h)
set_option maxHeartbeats 16000000 in
set_option maxRecDepth 1000000 in
theorem lexR_any (s : Bs) (w : World) (hl : s.length ≤ 800000) :
    Calls Tryd.prog 13 #[.string (bs s)] w fun e w' => ∃ v, e = .returned (.tuple #[v, .int .i64 (((lexL s).pos : Nat) : Int), .int .i64 (((lexL s).err : Nat) : Int)]) ∧ PRow w' w.heap.size v (lexL s).out ∧ Below w.heap.size w w' := by
  have hz : (bs s).size = s.length := bs_size s
  by_cases h2 : 20000 < s.length
  · have t1 : decide ((s.length : Int) > 20000) = true := by rw [decide_eq_true_eq]; omega
    have hr : lexL s = ⟨[], 20000, 72⟩ := by unfold lexL; rw [if_pos h2]
    rw [hr]
    clear hr
    go_enter Tryd.func13, Tryd.ntmps13
    go_wp2_with fail
    go_ret3
    exact ⟨_, rfl, PRow.nil _ _, Below.refl _ _⟩
  · have t1 : decide ((s.length : Int) > 20000) = false := by rw [decide_eq_false_iff_not]; omega
    obtain ⟨R, hR⟩ : ∃ R, R = lexL s := ⟨_, rfl⟩
    rw [← hR]
    have HR := Lib.hid hR; clear hR
    have HSL := Lib.hid (str_from s)
    have HSC := Lib.hid (str_cut s)
    have HFD := Lib.hid (fun k a b w h => find_any s k a b w h (by omega))
    obtain ⟨S, hS⟩ : ∃ S, S = bs s := ⟨_, rfl⟩
    rw [← hS] at hz HSL HSC HFD ⊢
    have HS := Lib.hid hS
    clear hS
    obtain ⟨n, hn⟩ : ∃ n, n = s.length := ⟨_, rfl⟩
    rw [← hn] at hz h2 t1 HSL HSC HFD
    have Hn := Lib.hid hn; clear hn hl
    go_enter Tryd.func13, Tryd.ntmps13
    go_wp2_with fail
    go_loopw [5] (fun i wr => ∃ k F : Nat, i = .int .i64 (k : Int) ∧ k ≤ n ∧ n - k ≤ F ∧ badL s = badFrom F (s.drop k) k ∧ wr = w) (fun i _ => n - (intOf i).toNat)
    case atStart => exact ⟨0, n, rfl, Nat.zero_le _, by omega, by rw [Hn.out]; rfl, rfl⟩
    case round =>
      obtain ⟨k, F, rfl, hk, hF, hbd, rfl⟩ := hrel
      by_cases hkn : k < n
      · have tk : decide ((k : Int) < (n : Int)) = true := by rw [decide_eq_true_eq]; omega
        obtain ⟨F, rfl⟩ : ∃ F', F = F' + 1 := ⟨F - 1, by omega⟩
        obtain ⟨x, r, hxr, hb2, hle, hge⟩ := badL_step s F k (by rw [← Hn.out]; exact hkn) (by rw [← Hn.out]; exact hF) hbd
        rw [← Hn.out] at hle
        have hrl : r.length < 1000000 := by have := congrArg List.length hxr; rw [List.length_drop, ← Hn.out] at this; simp at this; omega
        have hsl := HSL.out k hk wr
        have H31 : Hid (Calls Tryd.prog 31 #[.string (bs (s.drop k))] wr fun e w' => e = .returned (.tuple #[.int .i64 (readL (x :: r)).1, .int .i64 (((readL (x :: r)).2 : Nat) : Int)]) ∧ w' = wr) := by
          rw [hxr]; exact read_any x r wr hrl
        have Hb2 := Lib.hid hb2
        obtain ⟨q, c, hq⟩ : ∃ q c, readL (x :: r) = (q, c) := ⟨_, _, rfl⟩
        rw [hq] at H31 Hb2 hle hge
        dsimp only at H31 Hb2 hle hge
        generalize bs (s.drop k) = X at hsl H31
        clear hb2 hbd hxr hrl hq
        by_cases hq0 : q < 0
        · rw [if_pos hq0] at Hb2
          have hr : R = ⟨[], k, 20⟩ := by rw [HR.out]; unfold lexL; rw [if_neg (by rw [← Hn.out]; exact h2), Hb2.out]
          have HRf := Lib.hid hr
          have tq : decide (q < 0) = true := decide_eq_true hq0
          clear hr Hb2 hge
          go_wp2_with (go_at_call 31; refine H31.out.mono ?_; rintro e w1 ⟨rfl, rfl⟩)
          go_ret3
          exact ⟨_, by rw [HRf.out]; rfl, by rw [HRf.out]; exact PRow.nil _ _, Below.refl _ _⟩
        · rw [if_neg hq0] at Hb2
          have tq : decide (q < 0) = false := decide_eq_false hq0
          go_wp2_with (go_at_call 31; refine H31.out.mono ?_; rintro e w1 ⟨rfl, rfl⟩)
          refine ⟨⟨k + c, F, by go_num, hle, by omega, Hb2.out, by first | exact rfl | exact trivial⟩, by simp [intOf]; omega⟩
      · obtain rfl : n = k := by omega
        have tk : decide ((n : Int) < (n : Int)) = false := by rw [decide_eq_false_iff_not]; omega
        have hr : R = lexFrom s (s.length + 1) 0 mach0 [] := by
          rw [HR.out]; unfold lexL
          rw [if_neg (by rw [← Hn.out]; exact h2), hbd, List.drop_of_length_le (by rw [← Hn.out]; exact Nat.le_refl _)]
          cases F <;> rfl
        have HRl := Lib.hid hr
        clear hr hbd hF HR HSL
        go_wp2_with fail
        obtain ⟨w0, rfl⟩ : ∃ w0 : World, w0 = wr := ⟨_, rfl⟩
        obtain ⟨G, hG⟩ : ∃ G, G = w0.heap.size := ⟨_, rfl⟩
        rw [← hG]
        have HG := Lib.hid hG
        go_loopw [9, 10] (fun v i wx => ∃ (k : Nat) (m : Mach) (x : Walk) (out : List Piece) (F : Nat), i = .int .i64 (k : Int) ∧ k ≤ n ∧ R = lexFrom s F k m out ∧ n - k < F ∧ RelM x m ∧ szW x ≤ k ∧ out.length ≤ k ∧ (∀ p ∈ out.getLast?, p.kind ≠ 0) ∧ Blk wx G 69 (wcells x) ∧ PRow wx G v out ∧ Below G w0 wx)
          (fun _ i _ => n - (intOf i).toNat)
        case atStart =>
          refine ⟨0, mach0, ⟨0, [], [], [], 0, false⟩, [], n + 1, rfl, by omega, by rw [HRl.out, Hn.out], by omega, ?_, by decide, by decide, (fun p hp => by simp at hp), ?_, PRow.nil _ _, (Below.refl _ w0).alloc (Nat.le_of_eq hG) _⟩
          · exact rel_mk 0 [] [] [] 0 false [] (by decide)
          · rw [hG]; exact blk_new w0 69 _
        case round =>
          clear hG
          obtain ⟨k, m, x, out, F, rfl, hk, hR, hF, hm, hsz, hol, ho, hb, hp, hB⟩ := hrel
          have HM := Lib.hid hm; have HO := Lib.hid ho; have HB := Lib.hid hb; have HP := Lib.hid hp; have HW := Lib.hid hB
          have hGw : G ≤ w0.heap.size := Nat.le_of_eq HG.out
          have hGr : G ≤ wr.heap.size := Nat.le_trans hGw hB.size
          clear hm ho hb hp hB
          by_cases hkn : k < n
          · have tk : decide ((k : Int) < (n : Int)) = true := by rw [decide_eq_true_eq]; omega
            obtain ⟨F, rfl⟩ : ∃ F', F = F' + 1 := ⟨F - 1, by omega⟩
            obtain ⟨lit, rest, more, hcut⟩ : ∃ lit rest more, Lib.cut (s.drop k) [123, 123] = (lit, rest, more) := ⟨_, _, _, rfl⟩
            obtain ⟨words, rest2, whole, hcut2⟩ : ∃ words rest2 whole, Lib.cut rest [125, 125] = (words, rest2, whole) := ⟨_, _, _, rfl⟩
            have hcr := cut_room (s.drop k) [123, 123]
            have hcr2 := cut_room rest [125, 125]
            rw [hcut, List.length_drop, ← Hn.out] at hcr
            rw [hcut2] at hcr2
            dsimp only at hcr hcr2
            obtain ⟨hp1, hp2⟩ := cut_parts _ _ _ _ _ hcut
            obtain ⟨hw1, _⟩ := cut_parts _ _ _ _ _ hcut2
            have hstep := lexFrom_step s F k m out (by rw [← Hn.out]; exact hkn) lit rest more hcut words rest2 whole hcut2
            rw [← hR, ← Hn.out] at hstep
            have H32 := Lib.hid (fun W => HFD.out k 123 123 W hk)
            rw [hcut] at H32
            dsimp only at H32
            have HST := Lib.hid hstep; have HP1 := Lib.hid hp1; have HP2 := Lib.hid hp2; have HW1 := Lib.hid hw1; have Hcr := Lib.hid hcr; have Hcr2 := Lib.hid hcr2
            have hll : k + lit.length ≤ n := by omega
            have H32' : Hid (∀ W : World, Calls Tryd.prog 32 #[.string S, .int .i64 (k : Int), .string ⟨#[123, 123]⟩] W fun e w' => e = .returned (.int .i64 ((k + lit.length : Nat) : Int)) ∧ w' = W) := H32
            have Hcut2 := Lib.hid hcut2
            clear hcut hcut2 hp1 hp2 hw1 hcr hcr2 hstep hR H32
            go_wp2_with (go_at_call 32; refine (H32'.out _).mono ?_; rintro e w1 ⟨rfl, rfl⟩)
            refine rloop3x _ _ _ _ _ _ _ _ _ _ _ _ _ _ _ _ _ _ _ _ _ _ _ _ _ _ _ _ _ _ _ _ _ _ _ _ _ _ _ _ _ _ _ _ _ _ _ _ _ _ _ _ _ _ _ _ _ _ _ _ _ _ _ _ _ _ _ _ _ _ _ _ _ _ _ _ _ _ _ _ _ _ _ _ _ _ _ _ _ _ _ _ _ _ _ _ _ _ _ _ _ _ _ _ _ _ _ _ _ _ _ _ _ _ _ _ _ _ _ _ _ _ _ _ _ _ _ _ _ _ _ _ _ _ _ _ _ _ _ _ _ _ _ _ _ _ _ _ _ _ _ _ _ _ _ _ _ _ _ _ _ _ _ _ _ _ S s lit G k G out x _ HS ?_ (by rw [← Hn.out]; exact hll) (by rw [← Hn.out]; omega) HO (by omega) m HM (by omega) HP HB (Nat.le_refl _) hGr _ ?_
            · intro j hj
              exact getD_take HP1.out hj
            intro v9 _ _ _ _ _ _ _ _ _ _ _ _ _ _ _ _ _ _ _ _ _ _ _ _ _ _ _ _ _ _ _ _ _ _ _ _ _ _ _ _ _ _ _ _ _ _ _ _ _ _ _ _ _ _ _ _ _ _ _ _ _ _ _ _ _ _ w2 hp2 hb2 hB2
            have hMr := rel_fold lit x m HM.out
            have hszX := szW_fold lit x
            have hLo : (litP k lit out).length ≤ k + lit.length := by
              unfold litP
              split
              · omega
              · rename_i hne
                have : 0 < lit.length := List.length_pos_iff.2 hne
                rw [List.length_append, List.length_singleton]; omega
            obtain ⟨M, hMe⟩ : ∃ M, M = lit.foldl stepM m := ⟨_, rfl⟩
            obtain ⟨X, hXe⟩ : ∃ X, X = lit.foldl stepW x := ⟨_, rfl⟩
            obtain ⟨L, hLe⟩ : ∃ L, L = litP k lit out := ⟨_, rfl⟩
            rw [← hMe] at hMr HST
            rw [← hXe] at hMr hszX hb2
            rw [← hLe] at hLo hp2 HST
            clear hMe hXe hLe
            obtain ⟨K, hKe⟩ : ∃ K, K = k + lit.length := ⟨_, rfl⟩
            rw [← hKe] at hLo hll HST ⊢
            have hszX : szW X ≤ K := by omega
            have HKe := Lib.hid hKe
            have hkK : k ≤ K := by omega
            have hXst : X.st = M.st := hMr.st
            have hXa : X.attr = M.attr := hMr.attr
            have hXf : X.filled = M.filled := hMr.filled
            have hMst := hMr.le
            have hB3 : Below G w0 w2 := HW.out.trans hB2
            have HMr := Lib.hid hMr; have HB2 := Lib.hid hb2; have HP2' := Lib.hid hp2; have HW2 := Lib.hid hB3
            have d0 := blk_cell hb2 0
            simp only [wcells, List.getElem?_cons_zero] at d0
            have qs := (st_text X.st (by rw [hXst]; exact hMst)).1
            rw [hXst] at d0 qs
            have hgs : G < w2.heap.size := blk_lt hb2
            clear hKe hMr hb2 hp2 hB2 hB3 HB HP HW hGr
            cases more with
            | false =>
              rw [if_pos rfl] at HST
              have hKn : K = n := by have h1 := Hcr.out; have h2 := HKe.out; rw [if_neg (by decide)] at h1; omega
              subst hKn
              obtain ⟨SS, hSS⟩ : ∃ SS, SS = stS M.st := ⟨_, rfl⟩
              rw [← hSS] at d0 qs
              clear hSS
              by_cases h0 : M.st = 0
              · rw [decide_eq_true h0] at qs
                have hR : R = ⟨L, 0, 0⟩ := by rw [HST.out]; unfold lexEnd; rw [if_pos h0]
                have HRf := Lib.hid hR
                clear hR HST h0 hXst hXa hXf
                go_wp2_with fail
                go_ret3
                exact ⟨_, by rw [HRf.out]; rfl, by rw [HRf.out, ← HG.out]; exact HP2'.out, by rw [← HG.out]; exact HW2.out⟩
              · rw [decide_eq_false h0] at qs
                have hR : R = ⟨[], K, 171⟩ := by rw [HST.out]; unfold lexEnd; rw [if_neg h0]
                have HRf := Lib.hid hR
                clear hR HST h0 hXst hXa hXf
                go_wp2_with fail
                go_ret3
                exact ⟨_, by rw [HRf.out]; rfl, by rw [HRf.out]; exact PRow.nil _ _, by rw [← HG.out]; exact HW2.out⟩
            | true =>
              rw [if_neg (by decide)] at HST
              have hKr : K + (2 + rest.length) = n := by
                have h1 := Hcr.out; have h2 := HKe.out
                rw [if_pos rfl, show ([123, 123] : Bs).length = 2 from rfl] at h1; omega
              have hrest : rest = s.drop (K + 2) := by
                rw [HP2.out rfl, List.drop_drop, show ([123, 123] : Bs).length = 2 from rfl]
                congr 1
                have h2 := HKe.out; omega
              have hc2 : words.length + (if whole = true then 2 + rest2.length else 0) = rest.length := Hcr2.out
              have h32 := HFD.out (K + 2) 125 125
              rw [← hrest, Hcut2.out] at h32
              dsimp only at h32
              rw [show ((K + 2 : Nat) : Int) = (K : Int) + 2 from by omega] at h32
              have hsl0 := HSC.out (K + 2) (K + 2 + words.length) (by omega)
              have hw1 : words = (s.drop (K + 2)).take words.length := by rw [← hrest]; exact HW1.out
              rw [seg_eq hw1, show ((K + 2 : Nat) : Int) = (K : Int) + 2 from by omega] at hsl0
              obtain ⟨E, hE⟩ : ∃ E, E = K + 2 + words.length := ⟨_, rfl⟩
              have hE2 : E ≤ n := by split at hc2 <;> omega
              rw [← hE] at h32 hsl0
              have h32 := fun W => h32 W (by omega)
              have hsl := hsl0 hE2
              have H32b : Hid (∀ W : World, Calls Tryd.prog 32 #[.string S, .int .i64 ((K : Int) + 2), .string ⟨#[125, 125]⟩] W fun e w' => e = .returned (.int .i64 ((E : Nat) : Int)) ∧ w' = W) := h32
              have tKn : ((K : Int) == (n : Int)) = false := by rw [beq_eq_false_iff_ne]; omega
              have hEK : K + 2 ≤ E := by omega
              have HE := Lib.hid hE
              clear h32 hsl0 hw1 hrest hE H32'
              cases whole with
              | false =>
                rw [if_neg (by decide)] at hc2
                have hEn : E = n := by have := HE.out; omega
                have hR : R = ⟨[], K, 170⟩ := by
                  rw [HST.out]
                  cases tagL words <;> rfl
                have tE : ((E : Int) == (n : Int)) = true := by rw [beq_iff_eq]; omega
                have HRf := Lib.hid hR
                clear hR HST hsl hXst hXa hXf qs d0 hEn hc2
                go_wp2_with (go_at_call 32; refine (H32b.out _).mono ?_; rintro e w2 ⟨rfl, rfl⟩)
                go_ret3
                exact ⟨_, by rw [HRf.out]; rfl, by rw [HRf.out]; exact PRow.nil _ _, by rw [← HG.out]; exact HW2.out⟩
              | true =>
                rw [if_pos rfl] at hc2
                have hEn : E + 2 ≤ n := by have := HE.out; omega
                have tE : ((E : Int) == (n : Int)) = false := by rw [beq_eq_false_iff_ne]; omega
                have H34 := Lib.hid (fun W => tagR_any words W (by omega))
                clear hc2 qs d0
                cases ht : tagL words with
                | none =>
                  rw [ht] at H34 HST
                  have HRf : Hid (R = ⟨[], K, 170⟩) := HST
                  clear HST ht hXst hXa hXf
                  go_wp2_with (first | (go_at_call 32; refine (H32b.out _).mono ?_; rintro e w2 ⟨rfl, rfl⟩) | (go_at_call 34; refine (H34.out _).mono ?_; rintro e w3 ⟨⟨k3, pv3, nm3, ok3, rfl, hok⟩, hb3⟩; obtain ⟨rfl, A3, n3, c3, rfl⟩ : ok3 = false ∧ ∃ A n c, pv3 = .slice A n c := hok; unfold pcells))
                  go_ret3
                  exact ⟨_, by rw [HRf.out]; rfl, by rw [HRf.out]; exact PRow.nil _ _, by rw [← HG.out]; exact (HW2.out.trans (hb3.mono (by omega))).alloc (by have := hb3.size; omega) _⟩
                | some p =>
                  have hpk := tag_kind words p ht
                  rw [ht] at H34 HST
                  have HST : Hid (R = if true = false then (⟨[], K, 170⟩ : LexR) else if (placeL M.st M.attr M.filled).2 = false ∨ (p.kind ≠ 1 ∧ (placeL M.st M.attr M.filled).1 ≠ 0) then ⟨[], K, 171⟩
                    else lexFrom s F (K + (words.length + 4)) { M with filled := true } (L ++ [⟨p.kind, K, [], p.path, p.name, (placeL M.st M.attr M.filled).1⟩])) := HST
                  rw [if_neg (by decide)] at HST
                  obtain ⟨PL, hPLe⟩ : ∃ PL, PL = placeL M.st M.attr M.filled := ⟨_, rfl⟩
                  rw [← hPLe] at HST
                  have h35 := fun W => placeR_any X (by rw [hXst]; exact hMst) (by unfold szW at hszX; omega) W
                  rw [hXst, hXa, hXf, ← hPLe] at h35
                  obtain ⟨pl, may⟩ := PL
                  dsimp only at HST h35
                  obtain ⟨x0, x1, x2, x3, x4, x5, hXc⟩ : ∃ x0 x1 x2 x3 x4 x5, wcells X = [.string x0, .string x1, .string x2, .string x3, .int .u8 x4, .bool x5] := ⟨_, _, _, _, _, _, rfl⟩
                  have hXf1 : wcells { X with filled := true } = [.string x0, .string x1, .string x2, .string x3, .int .u8 x4, .bool true] := by
                    have h := hXc
                    simp only [wcells] at h ⊢
                    injection h with h0 h; injection h with h1 h; injection h with h2 h; injection h with h3 h; injection h with h4 h
                    rw [h0, h1, h2, h3, h4]
                  simp only [walkV, hXc] at h35
                  rw [hXc] at HB2
                  have H35 := Lib.hid h35; have HXF := Lib.hid hXf1
                  have hTP : ∀ W, Calls Tryd.prog 34 #[.string (bs words)] W fun e w' => ∃ A nn c, e = .returned (.tuple #[.agg #[.int .i64 ((p.kind : Nat) : Int), .int .i64 0, .string (bs []), .slice A nn c, .string (bs p.name), .int .i64 0], .bool true]) ∧ w'.ownsRow W.heap.size 9 1 (.slice A nn c) p.path.length (strs p.path) ∧ Below W.heap.size W w' := by
                    intro W
                    refine (H34.out W).mono ?_
                    rintro e w' ⟨⟨kk, pv, nm, ok, he, hr⟩, hbw⟩
                    obtain ⟨rfl, rfl, rfl, ho⟩ : ok = true ∧ kk = p.kind ∧ nm = p.name ∧ w'.ownsRow W.heap.size 9 1 pv p.path.length (strs p.path) := hr
                    obtain ⟨A, c, rfl, _⟩ := own_form ho
                    exact ⟨A, _, c, he, ho, hbw⟩
                  have HTP := Lib.hid hTP
                  clear hPLe h35 hXc hXf1 hTP H34 ht hXst hXa hXf
                  go_wp2_with (first | (go_at_call 32; refine (H32b.out _).mono ?_; rintro e w2 ⟨rfl, rfl⟩) | (go_at_call 34; refine (HTP.out _).mono ?_; rintro e w3 ⟨A3, n3, c3, rfl, ho3, hb3⟩; have hB23 := blk_below HB2.out hb3 (blk_lt HB2.out); have HB3 := Lib.hid hb3; have HO3 := Lib.hid ho3; have HB23 := Lib.hid hB23; have y0 := blk_cell hB23 0; have y1 := blk_cell hB23 1; have y2 := blk_cell hB23 2; have y3 := blk_cell hB23 3; have y4 := blk_cell hB23 4; have y5 := blk_cell hB23 5; have hg3 := blk_lt hB23; simp only [List.getElem?_cons_zero, List.getElem?_cons_succ] at y0 y1 y2 y3 y4 y5; clear hb3 ho3 hB23))
                  refine (H35.out _).mono ?_
                  rintro e w8 ⟨rfl, hb8⟩
                  have hgp : Blk w8 w3.heap.size 35 [.int .i64 ((p.kind : Nat) : Int), .int .i64 0, .string (bs []), .slice A3 n3 c3, .string (bs p.name), .int .i64 0] := (hb8.block w3.heap.size (by simp)).trans (heap_alloc_new w3 _)
                  have hx8 : Blk w8 G 69 [.string x0, .string x1, .string x2, .string x3, .int .u8 x4, .bool x5] := (hb8.block G (by simp; omega)).trans (blk_alloc HB23.out _)
                  have hb38 : Below w3.heap.size w3 w8 := ((Below.refl _ w3).alloc (Nat.le_refl _) _).trans (hb8.mono (by simp))
                  have hs23 : w2.heap.size ≤ w3.heap.size := HB3.out.size
                  have hw3 : Below G w0 w3 := HW2.out.trans (HB3.out.mono (by omega))
                  have hw8 : Below G w0 w8 := hw3.trans (hb38.mono (by omega))
                  have hs8 : w3.heap.size < w8.heap.size := blk_lt hgp
                  have e0 := blk_cell hgp 0; have e1 := blk_cell hgp 1; have e2 := blk_cell hgp 2; have e3 := blk_cell hgp 3; have e4 := blk_cell hgp 4; have e5 := blk_cell hgp 5
                  have f1 := blk_frozen hgp 1; have f5 := blk_frozen hgp 5
                  have g5 := blk_cell hx8 5; have fg5 := blk_frozen hx8 5
                  simp only [List.getElem?_cons_zero, List.getElem?_cons_succ] at e0 e1 e2 e3 e4 e5 g5
                  have HGP := Lib.hid hgp; have HX8 := Lib.hid hx8; have HB38 := Lib.hid hb38; have HW8 := Lib.hid hw8
                  clear hb8 hgp hx8 hb38 hw3 y0 y1 y2 y3 y4 y5
                  by_cases hbadp : may = false ∨ (p.kind ≠ 1 ∧ pl ≠ 0)
                  · rw [if_pos hbadp] at HST
                    have HRf := HST
                    clear HST
                    have hfin : PRow w8 G (.slice none 0 0) [] := PRow.nil _ _
                    cases may with
                    | false =>
                      clear hbadp
                      go_wp2_with fail
                      go_ret3
                      exact ⟨_, by rw [HRf.out]; rfl, by rw [HRf.out, ← HG.out]; exact hfin, by rw [← HG.out]; exact HW8.out⟩
                    | true =>
                      obtain ⟨hk1, hpl⟩ : p.kind ≠ 1 ∧ pl ≠ 0 := hbadp.resolve_left (by decide)
                      have tk1 : ((p.kind : Int) != 1) = true := by rw [bne_iff_ne]; omega
                      have tpl : ((pl : Int) != 0) = true := by rw [bne_iff_ne]; omega
                      clear hbadp
                      go_wp2_with fail
                      go_ret3
                      exact ⟨_, by rw [HRf.out]; rfl, by rw [HRf.out, ← HG.out]; exact hfin, by rw [← HG.out]; exact HW8.out⟩
                  · rw [if_neg hbadp] at HST
                    obtain rfl : may = true := by
                      cases may with
                      | true => rfl
                      | false => exact absurd (.inl rfl) hbadp
                    by_cases hpl0 : pl = 0
                    · subst hpl0
                      clear hbadp
                      have hB9 : Below w3.heap.size w3 ((w8.setCell ⟨w3.heap.size, 1, none⟩ (.int .i64 (K : Int))).setCell ⟨w3.heap.size, 5, none⟩ (.int .i64 0)) := (HB38.out.setCell (Nat.le_refl _) _).setCell (Nat.le_refl _) _
                      have hp9 : PRow ((w8.setCell ⟨w3.heap.size, 1, none⟩ (.int .i64 (K : Int))).setCell ⟨w3.heap.size, 5, none⟩ (.int .i64 0)) G v9 L := (HP2'.out.below HB3.out).below hB9
                      have hx9 : Blk ((w8.setCell ⟨w3.heap.size, 1, none⟩ (.int .i64 (K : Int))).setCell ⟨w3.heap.size, 5, none⟩ (.int .i64 0)) G 69 [.string x0, .string x1, .string x2, .string x3, .int .u8 x4, .bool x5] := blk_far (blk_far HX8.out (by show G ≠ w3.heap.size; omega) _) (by show G ≠ w3.heap.size; omega) _
                      have ho9 : ((w8.setCell ⟨w3.heap.size, 1, none⟩ (.int .i64 (K : Int))).setCell ⟨w3.heap.size, 5, none⟩ (.int .i64 0)).ownsRow G 9 1 (.slice A3 n3 c3) p.path.length (strs p.path) :=
                        own_base (own_below HO3.out hB9 (fun k hk => (HO3.out.lt k hk).2)) (by omega)
                      have hW9 : Below G w0 ((w8.setCell ⟨w3.heap.size, 1, none⟩ (.int .i64 (K : Int))).setCell ⟨w3.heap.size, 5, none⟩ (.int .i64 0)) := (HW8.out.setCell (by show G ≤ w3.heap.size; omega) _).setCell (by show G ≤ w3.heap.size; omega) _
                      obtain ⟨A9, c9, rfl, hc9⟩ := hp9.form
                      obtain ⟨qq, hq1, hq2, hq3⟩ := hp9
                      have HQ1 := Lib.hid hq1; have HQ2 := Lib.hid hq2; have HQ3 := Lib.hid hq3; have HO9 := Lib.hid ho9; have HX9 := Lib.hid hx9; have HW9 := Lib.hid hW9
                      have hsw9 : G ≤ ((w8.setCell ⟨w3.heap.size, 1, none⟩ (.int .i64 (K : Int))).setCell ⟨w3.heap.size, 5, none⟩ (.int .i64 0)).heap.size := by simp; omega
                      clear hB9 hx9 ho9 hW9 hq1 hq2 hq3
                      have hgne : w3.heap.size ≠ G := by omega
                      have hgne2 : G ≠ w3.heap.size := by omega
                      have hLl2 : L.length ≤ 100000 := by omega
                      go_wp2_with (at_builtin; refine wpList_pushG rfl (.tmp 157) (.tmp 159) 23 rfl G 35 (.agg #[.int .i64 0, .int .i64 0, .string ⟨#[]⟩, .slice none 0 0, .string ⟨#[]⟩, .int .i64 0]) 6 80 Tryd.underlying23 (by kernel_rfl) rfl (by decide) (.slice A9 L.length c9) L.length _ rfl HQ2.out #[.int .i64 ((p.kind : Nat) : Int), .int .i64 (K : Int), .string (bs []), .slice A3 n3 c3, .string (bs p.name), .int .i64 0] 1 (by decide) (by show Value.slice (some ⟨w8.heap.size, 0, none⟩) 1 1 = _; simp) rfl (by simp [Value.oneCell']) (by omega) (by omega) hsw9 ?_; intro g10 cap10 w10 hown10 hg10 hb10 hgr10; have hx10 : Blk w10 G 69 [.string x0, .string x1, .string x2, .string x3, .int .u8 x4, .bool x5] := blk_grown HX9.out hgr10 (fun g' hg' => by obtain ⟨cur, hc⟩ := own_block HQ2.out hg'; exact ⟨cur, 35, (0, 0), hc, by decide⟩); have z5 := blk_cell hx10 5; have fz5 := blk_frozen hx10 5; simp only [List.getElem?_cons_zero, List.getElem?_cons_succ] at z5; have HX10 := Lib.hid hx10; have Hown10 := Lib.hid hown10; have HG10 := Lib.hid hgr10; have HB10 := Lib.hid hb10; clear hown10 hgr10 hb10 hx10)
                      have hfin : PRow w10 G (.slice (some ⟨g10, 0, none⟩) (L.length + 1) cap10) (L ++ [⟨p.kind, K, [], p.path, p.name, 0⟩]) :=
                        PRow.pushed qq HQ1.out HQ2.out HQ3.out ⟨p.kind, K, [], p.path, p.name, 0⟩ (.slice A3 n3 c3) HO9.out HG10.out Hown10.out
                      have hfin2 := hfin.grown (gb_set w10 G 5 (.bool true)) HX10.out (by decide) (by decide)
                      have hxf : Blk (w10.setCell ⟨G, 5, none⟩ (.bool true)) G 69 (wcells { X with filled := true }) := by
                        rw [HXF.out]; exact blk_set HX10.out 5 (.bool true)
                      have hwf : Below G w0 (w10.setCell ⟨G, 5, none⟩ (.bool true)) := (HW9.out.trans HB10.out).setCell (Nat.le_refl _) _
                      have hEe : E + 2 = K + (words.length + 4) := by have := HE.out; omega
                      refine ⟨⟨K + (words.length + 4), { M with filled := true }, { X with filled := true }, L ++ [⟨p.kind, K, [], p.path, p.name, 0⟩], F, ?_, by omega, HST.out, by omega, ⟨hMst, HMr.out.st, HMr.out.el, HMr.out.attr, HMr.out.quote, rfl, HMr.out.bang, HMr.out.raw⟩, ?_, by rw [List.length_append, List.length_singleton]; omega, ?_, hxf, ?_, hwf⟩, ?_⟩
                      · rw [← hEe]; go_num
                      · show szW X ≤ _
                        omega
                      · intro p' hp'
                        rw [List.getLast?_concat] at hp'
                        cases hp'
                        exact hpk
                      · exact hfin2
                      · simp [intOf]; omega
                    · have hk1 : p.kind = 1 := by
                        by_cases h1 : p.kind = 1
                        · exact h1
                        · exact absurd (.inr ⟨h1, hpl0⟩) hbadp
                      have tpl : ((pl : Int) != 0) = true := by rw [bne_iff_ne]; omega
                      rw [hk1] at e0 HGP HST
                      have e0 : w8.cell? ⟨w3.heap.size, 0, none⟩ = some (.int .i64 1) := e0
                      clear hbadp hpk hk1
                      have hB9 : Below w3.heap.size w3 ((w8.setCell ⟨w3.heap.size, 1, none⟩ (.int .i64 (K : Int))).setCell ⟨w3.heap.size, 5, none⟩ (.int .i64 ((pl : Nat) : Int))) := (HB38.out.setCell (Nat.le_refl _) _).setCell (Nat.le_refl _) _
                      have hp9 : PRow ((w8.setCell ⟨w3.heap.size, 1, none⟩ (.int .i64 (K : Int))).setCell ⟨w3.heap.size, 5, none⟩ (.int .i64 ((pl : Nat) : Int))) G v9 L := (HP2'.out.below HB3.out).below hB9
                      have hx9 : Blk ((w8.setCell ⟨w3.heap.size, 1, none⟩ (.int .i64 (K : Int))).setCell ⟨w3.heap.size, 5, none⟩ (.int .i64 ((pl : Nat) : Int))) G 69 [.string x0, .string x1, .string x2, .string x3, .int .u8 x4, .bool x5] := blk_far (blk_far HX8.out (by show G ≠ w3.heap.size; omega) _) (by show G ≠ w3.heap.size; omega) _
                      have ho9 : ((w8.setCell ⟨w3.heap.size, 1, none⟩ (.int .i64 (K : Int))).setCell ⟨w3.heap.size, 5, none⟩ (.int .i64 ((pl : Nat) : Int))).ownsRow G 9 1 (.slice A3 n3 c3) p.path.length (strs p.path) :=
                        own_base (own_below HO3.out hB9 (fun k hk => (HO3.out.lt k hk).2)) (by omega)
                      have hW9 : Below G w0 ((w8.setCell ⟨w3.heap.size, 1, none⟩ (.int .i64 (K : Int))).setCell ⟨w3.heap.size, 5, none⟩ (.int .i64 ((pl : Nat) : Int))) := (HW8.out.setCell (by show G ≤ w3.heap.size; omega) _).setCell (by show G ≤ w3.heap.size; omega) _
                      obtain ⟨A9, c9, rfl, hc9⟩ := hp9.form
                      obtain ⟨qq, hq1, hq2, hq3⟩ := hp9
                      have HQ1 := Lib.hid hq1; have HQ2 := Lib.hid hq2; have HQ3 := Lib.hid hq3; have HO9 := Lib.hid ho9; have HX9 := Lib.hid hx9; have HW9 := Lib.hid hW9
                      have hsw9 : G ≤ ((w8.setCell ⟨w3.heap.size, 1, none⟩ (.int .i64 (K : Int))).setCell ⟨w3.heap.size, 5, none⟩ (.int .i64 ((pl : Nat) : Int))).heap.size := by simp; omega
                      clear hB9 hx9 ho9 hW9 hq1 hq2 hq3
                      have hgne : w3.heap.size ≠ G := by omega
                      have hgne2 : G ≠ w3.heap.size := by omega
                      have hLl2 : L.length ≤ 100000 := by omega
                      go_wp2_with (at_builtin; refine wpList_pushG rfl (.tmp 157) (.tmp 159) 23 rfl G 35 (.agg #[.int .i64 0, .int .i64 0, .string ⟨#[]⟩, .slice none 0 0, .string ⟨#[]⟩, .int .i64 0]) 6 80 Tryd.underlying23 (by kernel_rfl) rfl (by decide) (.slice A9 L.length c9) L.length _ rfl HQ2.out #[.int .i64 1, .int .i64 (K : Int), .string (bs []), .slice A3 n3 c3, .string (bs p.name), .int .i64 ((pl : Nat) : Int)] 1 (by decide) (by show Value.slice (some ⟨w8.heap.size, 0, none⟩) 1 1 = _; simp) rfl (by simp [Value.oneCell']) (by omega) (by omega) hsw9 ?_; intro g10 cap10 w10 hown10 hg10 hb10 hgr10; have hx10 : Blk w10 G 69 [.string x0, .string x1, .string x2, .string x3, .int .u8 x4, .bool x5] := blk_grown HX9.out hgr10 (fun g' hg' => by obtain ⟨cur, hc⟩ := own_block HQ2.out hg'; exact ⟨cur, 35, (0, 0), hc, by decide⟩); have z5 := blk_cell hx10 5; have fz5 := blk_frozen hx10 5; simp only [List.getElem?_cons_zero, List.getElem?_cons_succ] at z5; have HX10 := Lib.hid hx10; have Hown10 := Lib.hid hown10; have HG10 := Lib.hid hgr10; have HB10 := Lib.hid hb10; clear hown10 hgr10 hb10 hx10)
                      have hfin : PRow w10 G (.slice (some ⟨g10, 0, none⟩) (L.length + 1) cap10) (L ++ [⟨1, K, [], p.path, p.name, pl⟩]) :=
                        PRow.pushed qq HQ1.out HQ2.out HQ3.out ⟨1, K, [], p.path, p.name, pl⟩ (.slice A3 n3 c3) HO9.out HG10.out Hown10.out
                      have hfin2 := hfin.grown (gb_set w10 G 5 (.bool true)) HX10.out (by decide) (by decide)
                      have hxf : Blk (w10.setCell ⟨G, 5, none⟩ (.bool true)) G 69 (wcells { X with filled := true }) := by
                        rw [HXF.out]; exact blk_set HX10.out 5 (.bool true)
                      have hwf : Below G w0 (w10.setCell ⟨G, 5, none⟩ (.bool true)) := (HW9.out.trans HB10.out).setCell (Nat.le_refl _) _
                      have hEe : E + 2 = K + (words.length + 4) := by have := HE.out; omega
                      refine ⟨⟨K + (words.length + 4), { M with filled := true }, { X with filled := true }, L ++ [⟨1, K, [], p.path, p.name, pl⟩], F, ?_, by omega, HST.out, by omega, ⟨hMst, HMr.out.st, HMr.out.el, HMr.out.attr, HMr.out.quote, rfl, HMr.out.bang, HMr.out.raw⟩, ?_, by rw [List.length_append, List.length_singleton]; omega, ?_, hxf, ?_, hwf⟩, ?_⟩
                      · rw [← hEe]; go_num
                      · show szW X ≤ _
                        omega
                      · intro p' hp'
                        rw [List.getLast?_concat] at hp'
                        cases hp'
                        show (1 : Nat) ≠ 0
                        decide
                      · exact hfin2
                      · simp [intOf]; omega
          · have tk : decide ((k : Int) < (n : Int)) = false := by rw [decide_eq_false_iff_not]; omega
            obtain ⟨F, rfl⟩ : ∃ F', F = F' + 1 := ⟨F - 1, by omega⟩
            have hend : R = lexEnd n m out := by
              rw [hR, lexFrom, if_neg (by rw [← Hn.out]; exact hkn), ← Hn.out]
            have hXst : x.st = m.st := HM.out.st
            have d0 := blk_cell HB.out 0
            simp only [wcells, List.getElem?_cons_zero] at d0
            have qs := (st_text x.st (by rw [hXst]; exact HM.out.le)).1
            rw [hXst] at d0 qs
            obtain ⟨SS, hSS⟩ : ∃ SS, SS = stS m.st := ⟨_, rfl⟩
            rw [← hSS] at d0 qs
            clear hSS hR
            by_cases h0 : m.st = 0
            · rw [decide_eq_true h0] at qs
              have hR : R = ⟨out, 0, 0⟩ := by rw [hend]; unfold lexEnd; rw [if_pos h0]
              have HRf := Lib.hid hR
              clear hR hend h0 hXst
              go_wp2_with fail
              go_ret3
              exact ⟨_, by rw [HRf.out]; rfl, by rw [HRf.out, ← HG.out]; exact HP.out, by rw [← HG.out]; exact HW.out⟩
            · rw [decide_eq_false h0] at qs
              have hR : R = ⟨[], n, 171⟩ := by rw [hend]; unfold lexEnd; rw [if_neg h0]
              have HRf := Lib.hid hR
              clear hR hend h0 hXst
              go_wp2_with fail
              go_ret3
              exact ⟨_, by rw [HRf.out]; rfl, by rw [HRf.out]; exact PRow.nil _ _, by rw [← HG.out]; exact HW.out⟩
end Go.Proofs.YthilkpjdfjjikaaDoor
