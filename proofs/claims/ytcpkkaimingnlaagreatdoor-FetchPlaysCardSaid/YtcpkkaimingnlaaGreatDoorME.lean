/-
  Texts of this seat, joined: Lro, Ldt, Ldd, Lab. Each says what it proves, ahead of itself.
-/
import Derived.Test.YtcpkkaimingnlaaGreatDoorMC
import Derived.Test.YtcpkkaimingnlaaGreatDoorMB
set_option linter.unusedVariables false
set_option linter.unusedSimpArgs false
section
namespace Go.Proofs.YtcpkkaimingnlaaGreatDoor
open Go.RowKit

def strs (l : List Bs) : List Value := l.map fun s => Value.string (bs s)
theorem strs_len (l : List Bs) : (strs l).length = l.length := by simp [strs]
theorem strs_one (l : List Bs) : ∀ u ∈ strs l, u.oneCell' = true := by
  intro u hu
  obtain ⟨s, _, rfl⟩ := List.mem_map.1 hu
  rfl
theorem strs_at (l : List Bs) (k : Nat) (h : k < l.length) : (strs l)[k]? = some (.string (bs (l.getD k []))) := by simp [strs, h]
theorem strs_snoc (l : List Bs) (t : Bs) : strs (l ++ [t]) = strs l ++ [.string (bs t)] := by simp [strs]
def SOwn (w : World) (B : Nat) (v : Value) (l : List Bs) : Prop := w.ownsRow B 9 1 v l.length (strs l)
theorem SOwn.nil {w : World} {B : Nat} : SOwn w B (.slice none 0 0) [] := World.ownsRow_nil _ _ _ _
theorem SOwn.keep {w w' : World} {B : Nat} {v : Value} {l : List Bs} (h : SOwn w B v l) (hb : Below w.heap.size w w') : SOwn w' B v l := own_keep h hb
theorem SOwn.form {w : World} {B : Nat} {v : Value} {l : List Bs} (h : SOwn w B v l) : ∃ A cap, v = .slice A l.length cap ∧ l.length ≤ cap ∧ cap ≤ 9223372036854775807 ∧ (A = none → l.length = 0 ∧ cap = 0) := by
  rcases h.2 with ⟨rfl, h0⟩ | ⟨g, cap, cur, rfl, _, _, hc, hm, _⟩
  · exact ⟨none, 0, by rw [h0], by omega, by omega, fun _ => ⟨h0, rfl⟩⟩
  · exact ⟨_, cap, rfl, hc, hm, fun h => by cases h⟩
theorem infoS : (Tryz.prog.info? 9).map (fun i => (i.zero, i.size, i.bytes)) = some (some (.string ⟨#[]⟩), 1, 16) := by kernel_rfl
/-- 'out = append(out, t)'. -/
theorem wpList_pushS {w : World} {ops : Array Oper} {rest : List Oper} {o : Oper} {a : Act} {Q : Exit → Act → World → Prop} (hgd : o.guard = none) (s x : Operand)
    (ho : o.op = .call { callee := .builtin .append, args := #[s, x], argTypes := #[38, 38] })
    (B : Nat) (hB : B ≤ w.heap.size) (out : List Bs) (v : Value) (hs : a.eval s = v) (hv : SOwn w B v out) (t : Bs) (hx : a.eval x = .slice (some ⟨w.heap.size, 0, none⟩) 1 1) (hn : out.length + 1 ≤ 8000000)
    (h : ∀ A c w', SOwn w' B (.slice A (out.length + 1) c) (out ++ [t]) → Below B w w' → wpList Tryz.prog ops Q rest (a.put o.dst (.slice A (out.length + 1) c)) w') : wpList Tryz.prog ops Q (o :: rest) a (w.alloc (.cells #[.string (bs t)] 9)) := by
  refine wpList_push hgd s x 38 ho B 9 _ 1 16 Tryz.underlying38 infoS rfl (by decide) v out.length _ hs hv _ 1 (by decide) hx rfl rfl (by omega) (by omega) hB ?_
  intro g cap w' hown _ hb
  refine h _ _ w' ?_ hb
  unfold SOwn
  rw [List.length_append, strs_snoc]
  exact hown
/-- All but the last. -/
theorem SOwn.drop {w : World} {B : Nat} {A : Option Addr} {n c : Nat} {l : List Bs} (h : SOwn w B (.slice A n c) l) : SOwn w B (.slice A (l.length - 1) c) l.dropLast := by
  unfold SOwn
  rw [List.length_dropLast]
  refine ⟨by simp [strs_len], ?_⟩
  rcases h.2 with ⟨e, h0⟩ | ⟨g, cap, cur, e, h1, h2, h3, h4, h5, h6⟩
  · cases e
    exact .inl ⟨by rw [h0], by omega⟩
  · cases e
    refine .inr ⟨g, c, cur, rfl, h1, h2, by omega, h4, h5, ?_⟩
    have : strs l.dropLast = (strs l).take (l.length - 1) := by
      unfold strs
      rw [List.dropLast_eq_take, List.map_take]
    rw [this, ← h6, List.take_take, Nat.mul_one, Nat.mul_one, Nat.min_eq_left (by omega)]
/-- strings.Split at one byte. -/
theorem split_any (s : Bs) (c : UInt8) (hl : s.length ≤ 4000000) (w : World) (hT : Tabs w) :
    Calls Tryz.prog 58 #[.string (bs s), .string (bs [c])] w fun e w' => e = .returned (.slice (some ⟨w.heap.size, 0, none⟩) (splitC c s).length (splitC c s).length) ∧ w' = w.alloc (.cells (strs (splitC c s)).toArray 9) := by
  obtain ⟨m, hm⟩ := hT.len
  have hz := bs_size s
  have hd : (Lib.splitB (bs [c]) 0 (Lib.countB (bs s) (bs [c])) (bs s)).map (·.data.toList) = splitC c s := by
    rw [Lib.splitB_data, ← split_lib]
    have e1 : (bs s).data.toList = s := by simp [bs]
    have e2 : (bs [c]).data.toList = [c] := by simp [bs]
    rw [e1, e2]
    unfold Lib.split Lib.countB
    rw [e1, e2]
  have hcells : (Lib.splitB (bs [c]) 0 (Lib.countB (bs s) (bs [c])) (bs s)).map Value.string = strs (splitC c s) := by
    rw [← hd]
    unfold strs
    rw [List.map_map]
    rfl
  have hlen : Lib.countB (bs s) (bs [c]) + 1 = (splitC c s).length := by
    rw [← hd, List.length_map]
    exact (Lib.splitB_all (bs [c]) (Nat.le_refl 1) 0 _ (bs s) rfl).symm
  have := Tryz.strings_Split (bs s) (bs [c]) m w (by omega) hm (Nat.le_refl 1)
  rw [hcells, hlen] at this
  exact this
theorem join_texts (l : List Bs) (c : UInt8) : Lib.join ((l.map bs).map (·.data.toList)) [c] = joinC c l := by
  rw [List.map_map, ← join_lib]
  congr 1
  conv => rhs; rw [← List.map_id l]
  exact List.map_congr_left fun x _ => by simp [bs]
/-- strings.Join of a row of the call's own. -/
theorem join_any (l : List Bs) (c : UInt8) (v : Value) (B : Nat) (w : World) (hv : SOwn w B v l) (hn : l.length ≤ 8000000) (hl : (joinC c l).length ≤ 8000000) :
    Calls Tryz.prog 59 #[v, .string (bs [c])] w fun e w' => e = .returned (.string (bs (joinC c l))) ∧ Below w.heap.size w w' := by
  obtain ⟨A, cap, rfl, hc, _, _⟩ := hv.form
  by_cases h0 : l = []
  · subst h0
    refine (Tryz.strings_Join_none A cap (bs [c]) w).mono ?_
    rintro e w' ⟨rfl, rfl⟩
    exact ⟨rfl, Below.refl _ _⟩
  · obtain ⟨g, rfl, hb, hg⟩ := own_some hv (List.length_pos_iff.2 h0)
    have e2 : (bs [c]).data.toList = [c] := by simp [bs]
    have hj := Tryz.strings_Join g 0 cap (l.map bs) (bs [c]) w (fun j x hx => by
      have hj : j < l.length := by
        have := (List.getElem?_eq_some_iff.1 hx).1
        simpa using this
      rw [Nat.zero_add, hv.cellAt j (by omega), strs_at l j hj]
      have : x = bs (l.getD j []) := by
        have := hx
        simp [hj] at this
        simp [hj, this]
      rw [this]) hg (by simp; omega) (by simpa using hc) (by rw [e2, join_texts]; omega)
    rw [e2, join_texts, List.length_map] at hj
    exact hj
end Go.Proofs.YtcpkkaimingnlaaGreatDoor
end
section
namespace Go.Proofs.YtcpkkaimingnlaaGreatDoor
open Go.RowKit

def stepD (x : Bs) (last : Bool) (out : List Bs) : List Bs :=
  if x = d2 then (if last then out.dropLast ++ [[]] else out.dropLast) else if x = d1 then (if last then out ++ [[]] else out) else out ++ [x]
theorem dotsGo_step (x : Bs) (t out : List Bs) : dotsGo (x :: t) out = dotsGo t (stepD x t.isEmpty out) := by
  unfold stepD
  match t with
  | [] =>
    conv => lhs; rw [dotsGo]
    by_cases h2 : x = d2
    · rw [if_pos h2, if_pos h2]; rfl
    · rw [if_neg h2, if_neg h2]
      by_cases h1 : x = d1
      · rw [if_pos h1, if_pos h1]; rfl
      · rw [if_neg h1, if_neg h1]; rfl
  | y :: r =>
    conv => lhs; rw [dotsGo]
    by_cases h2 : x = d2
    · rw [if_pos h2, if_pos h2]; rfl
    · rw [if_neg h2, if_neg h2]
      by_cases h1 : x = d1
      · rw [if_pos h1, if_pos h1]; rfl
      · rw [if_neg h1, if_neg h1]
theorem prefix_slash (x : UInt8) (r : Bs) : Lib.hasPrefix (x :: r) [47] = (x == 47) := by
  show (((47 : UInt8) == x) && true) = _
  rw [Bool.and_true, Bool.eq_iff_iff, beq_iff_eq, beq_iff_eq]
  exact ⟨fun h => h.symm, fun h => h.symm⟩
theorem hasPrefix_any (s p : Bs) (w : World) : Calls Tryz.prog 53 #[.string (bs s), .string (bs p)] w fun e w' => e = .returned (.bool (Lib.hasPrefix s p)) ∧ w = w' := by
  have := Tryz.strings_HasPrefix (bs s) (bs p) w
  have e1 : (bs s).data.toList = s := by simp [bs]
  have e2 : (bs p).data.toList = p := by simp [bs]
  rw [e1, e2] at this
  exact this.mono fun _ _ ⟨h1, h2⟩ => ⟨h1, h2.symm⟩
theorem split_len (c : UInt8) (s : Bs) : (splitC c s).length ≤ s.length + 1 := by
  have h := join_len_sub c (splitC c s) (splitC_ne c s)
  rw [join_split] at h
  have : ∀ l : List Bs, l.length ≤ (l.map (fun p => p.length + 1)).sum := by
    intro l
    induction l with
    | nil => exact Nat.le_refl _
    | cons p l ih => rw [List.map_cons, List.sum_cons, List.length_cons]; omega
  have := this (splitC c s)
  omega
set_option maxHeartbeats 8000000 in
set_option maxRecDepth 100000 in
theorem dots_any (p : Bs) (w : World) (hT : Tabs w) (hl : p.length ≤ 3000000) :
    Calls Tryz.prog 19 #[.string (bs p)] w fun e w' => e = .returned (.string (bs (dotsP p))) ∧ Below w.heap.size w w' := by
  have hpre := Lib.hid (fun W => hasPrefix_any p [47] W)
  by_cases h47 : ∃ r, p = 47 :: r
  · obtain ⟨r, rfl⟩ := h47
    have e1 : Lib.hasPrefix (47 :: r) [47] = true := by rw [prefix_slash]; rfl
    rw [e1] at hpre
    have hd : dotsP (47 :: r) = 47 :: joinC 47 (dotsGo (splitC 47 r) []) := by rw [dotsP_cons, if_pos rfl]
    have hdl := dots_len (47 :: r)
    have hsp := Lib.hid (split_any r 47 (by rw [List.length_cons] at hl; omega) w hT)
    have hfr := str_from (47 :: r) 1 (by simp)
    have hfr : ∀ W, (Instr.slice 9 (.string (bs (47 :: r))) (some (.int .i64 1)) none none).run Tryz.prog W = .ok (.string (bs r)) W := hfr
    have hsl := split_len 47 r
    rw [List.length_cons] at hl
    generalize bs (47 :: r) = S at *
    obtain ⟨D, hD⟩ : ∃ D, D = dotsGo (splitC 47 r) [] := ⟨_, rfl⟩
    rw [← hD] at hd
    rw [hd] at hdl ⊢
    rw [List.length_cons, List.length_cons] at hdl
    generalize splitC 47 r = P at *
    have HD := Lib.hid hD
    clear hd hD
    obtain ⟨n, hn⟩ : ∃ n, n = P.length := ⟨_, rfl⟩
    rw [← hn] at hsp hsl
    have Hn := Lib.hid hn
    clear hn e1
    have hjoin := Lib.hid (fun (v : Value) (B : Nat) (W : World) (h : SOwn W B v D) (hn : D.length ≤ 8000000) => join_any D 47 v B W h hn (by omega))
    have eR : bs (47 :: joinC 47 D) = bs [47] ++ bs (joinC 47 D) := by rw [bs_cat]; rfl
    rw [eR]
    clear eR
    have hzj : (bs (joinC 47 D)).size = (joinC 47 D).length := bs_size _
    go_enter Tryz.func19, Tryz.ntmps19
    go_upto_region 5 with (first | (go_at_call 53; refine (hpre.out _).mono ?_; rintro e w' ⟨rfl, rfl⟩) | (go_at_call 58; refine hsp.out.mono ?_; rintro e w1 ⟨rfl, hw1⟩; have HW1 := Lib.hid hw1; clear hw1))
    clear hpre hsp hfr
    have hs1 : w1.heap.size = w.heap.size + 1 := by rw [HW1.out]; simp
    have hb1 : Below w.heap.size w w1 := by rw [HW1.out]; exact below_one _ _
    have hcel : Blk w1 w.heap.size 9 (strs P) := by rw [HW1.out]; have := blk_new w 9 (strs P).toArray; simpa using this
    have HB1 := Lib.hid hb1; have HC := Lib.hid hcel; have Hs1 := Lib.hid hs1
    clear hb1 hcel HW1 hs1
    go_wp2_with fail
    go_loopw [3, 17] (fun v i wr => ∃ (j : Nat) (O : List Bs), i = .int .i64 (j : Int) ∧ j ≤ n ∧ O.length ≤ j ∧ Hid (D = dotsGo (P.drop j) O) ∧ Hid (SOwn wr w1.heap.size v O) ∧ Hid (Below w1.heap.size w1 wr)) (fun _ i _ => n - (intOf i).toNat)
    case atStart => exact ⟨0, [], rfl, Nat.zero_le _, Nat.le_refl _, Lib.hid HD.out, Lib.hid SOwn.nil, Lib.hid (Below.refl _ _)⟩
    case round =>
      obtain ⟨j, O, rfl, hj, hO, HDj, HO, HB⟩ := hrel
      by_cases hjn : j < n
      · have tj : decide ((j : Int) < (n : Int)) = true := by rw [decide_eq_true_eq]; omega
        have hjl : j < P.length := by rw [← Hn.out]; exact hjn
        have hdr : P.drop j = P.getD j [] :: P.drop (j + 1) := by rw [List.drop_eq_getElem_cons hjl]; simp [hjl]
        have hcell : wr.cell? ⟨w.heap.size, j, none⟩ = some (.string (bs (P.getD j []))) := by
          rw [HB.out.cell (p := ⟨w.heap.size, j, none⟩) (by show w.heap.size < _; rw [Hs1.out]; omega), blk_cell HC.out j, strs_at P j hjl]
        obtain ⟨la, hla⟩ : ∃ la, la = decide (j + 1 = n) := ⟨_, rfl⟩
        have hem : (P.drop (j + 1)).isEmpty = la := by
          rw [hla, Bool.eq_iff_iff, List.isEmpty_iff, decide_eq_true_eq, List.drop_eq_nil_iff, ← Hn.out]; omega
        have tl : ((j : Int) == (n : Int) - 1) = la := by
          rw [hla, Bool.eq_iff_iff, beq_iff_eq, decide_eq_true_eq]; omega
        have hst : D = dotsGo (P.drop (j + 1)) (stepD (P.getD j []) la O) := by rw [HDj.out, hdr, dotsGo_step, hem]
        generalize P.getD j [] = x at *
        have HST := Lib.hid hst
        clear hst hdr hem hla hjl
        obtain ⟨A, c, hv, hc, hcm, hAn⟩ := HO.out.form
        subst hv
        have q1 : ((bs x).toList == [46, 46]) = decide (x = d2) := by rw [eq_bs, Bool.eq_iff_iff, beq_iff_eq, decide_eq_true_eq]; rfl
        have q2 : ((bs x).toList == [46]) = decide (x = d1) := by rw [eq_bs, Bool.eq_iff_iff, beq_iff_eq, decide_eq_true_eq]; rfl
        have hBs := HB.out.size
        by_cases h2 : x = d2
        · rw [decide_eq_true h2] at q1
          obtain ⟨m, hm⟩ : ∃ m, m = O.length - 1 := ⟨_, rfl⟩
          have hmx : max 0 ((O.length : Int) - 1) = ((m : Nat) : Int) := by omega
          have hdo := HO.out.drop
          have hdl2 : O.dropLast.length = m := by rw [List.length_dropLast, hm]
          rw [← hm] at hdo
          have hmc : m ≤ c := by omega
          have hmj : m ≤ j := by omega
          have HDO := Lib.hid hdo; have H2 := Lib.hid h2; have HL2 := Lib.hid hdl2
          clear hdo q2 hm h2 hdl2 HO
          cases la with
          | true =>
            have hst : D = dotsGo (P.drop (j + 1)) (O.dropLast ++ [[]]) := by rw [HST.out, H2.out]; rfl
            have HS2 := Lib.hid hst
            clear hst
            have hml : O.dropLast.length + 1 ≤ j + 1 := by rw [HL2.out]; omega
            have hml2 : O.dropLast.length + 1 ≤ 8000000 := by omega
            have HML := Lib.hid hml; have HML2 := Lib.hid hml2
            clear hml hml2
            go_wp2_with (at_builtin; refine wpList_pushS rfl (.tmp 39) (.tmp 40) rfl w1.heap.size hBs O.dropLast _ (by rfl) HDO.out [] (by rfl) HML2.out ?_; intro A2 c2 w2 ho2 hb2; have HO2 := Lib.hid ho2; have HB2 := Lib.hid hb2; clear ho2 hb2)
            exact ⟨⟨j + 1, O.dropLast ++ [[]], by go_num, by omega, by rw [List.length_append]; exact HML.out, HS2, Lib.hid (by have := HO2.out; rwa [List.length_dropLast] at this), Lib.hid (HB.out.trans HB2.out)⟩, by simp [intOf]; omega⟩
          | false =>
            have hst : D = dotsGo (P.drop (j + 1)) O.dropLast := by rw [HST.out, H2.out]; rfl
            have HS2 := Lib.hid hst
            clear hst
            go_wp2_with fail
            exact ⟨⟨j + 1, O.dropLast, by go_num, by omega, by rw [HL2.out]; omega, HS2, HDO, HB⟩, by simp [intOf]; omega⟩
        · rw [decide_eq_false h2] at q1
          by_cases h1 : x = d1
          · rw [decide_eq_true h1] at q2
            have H1 := Lib.hid h1; have H2 := Lib.hid h2
            clear h1 h2
            cases la with
            | true =>
              have hst : D = dotsGo (P.drop (j + 1)) (O ++ [[]]) := by rw [HST.out]; unfold stepD; rw [if_neg H2.out, if_pos H1.out]; rfl
              have HS2 := Lib.hid hst
              clear hst
              go_wp2_with (at_builtin; refine wpList_pushS rfl (.tmp 39) (.tmp 40) rfl w1.heap.size hBs O _ (by rfl) HO.out [] (by rfl) (by omega) ?_; intro A2 c2 w2 ho2 hb2; have HO2 := Lib.hid ho2; have HB2 := Lib.hid hb2; clear ho2 hb2)
              exact ⟨⟨j + 1, O ++ [[]], by go_num, by omega, by rw [List.length_append]; exact Nat.succ_le_succ hO, HS2, HO2, Lib.hid (HB.out.trans HB2.out)⟩, by simp [intOf]; omega⟩
            | false =>
              have hst : D = dotsGo (P.drop (j + 1)) O := by rw [HST.out]; unfold stepD; rw [if_neg H2.out, if_pos H1.out]; rfl
              have HS2 := Lib.hid hst
              clear hst
              go_wp2_with fail
              exact ⟨⟨j + 1, O, by go_num, by omega, by omega, HS2, HO, HB⟩, by simp [intOf]; omega⟩
          · rw [decide_eq_false h1] at q2
            have hst : D = dotsGo (P.drop (j + 1)) (O ++ [x]) := by rw [HST.out]; unfold stepD; rw [if_neg h2, if_neg h1]
            have HS2 := Lib.hid hst
            clear hst h1 h2
            go_wp2_with (at_builtin; refine wpList_pushS rfl (.tmp 42) (.tmp 44) rfl w1.heap.size hBs O _ (by rfl) HO.out x (by rfl) (by omega) ?_; intro A2 c2 w2 ho2 hb2; have HO2 := Lib.hid ho2; have HB2 := Lib.hid hb2; clear ho2 hb2)
            exact ⟨⟨j + 1, O ++ [x], by go_num, by omega, by rw [List.length_append]; exact Nat.succ_le_succ hO, HS2, HO2, Lib.hid (HB.out.trans HB2.out)⟩, by simp [intOf]; omega⟩
      · obtain rfl : j = n := by omega
        have tj : decide ((j : Int) < (j : Int)) = false := by rw [decide_eq_false_iff_not]; omega
        have hDO : O = D := by rw [HDj.out, List.drop_of_length_le (by rw [← Hn.out]; exact Nat.le_refl _)]; rfl
        subst hDO
        have hjo := Lib.hid (hjoin.out _ w1.heap.size wr HO.out (by omega))
        clear hjn
        go_wp2_with (go_at_call 59; refine hjo.out.mono ?_; rintro e w9 ⟨rfl, hb9⟩; have HB9 := Lib.hid hb9; clear hb9)
        go_ret
        exact ⟨rfl, (HB1.out.trans (HB.out.mono HB1.out.size)).trans (HB9.out.mono (Nat.le_trans HB1.out.size HB.out.size))⟩
  · have e1 : Lib.hasPrefix p [47] = false ∧ dotsP p = p := by
      match p with
      | [] => exact ⟨rfl, rfl⟩
      | x :: r =>
        have hx : x ≠ 47 := fun e => h47 ⟨r, by rw [e]⟩
        exact ⟨by rw [prefix_slash, beq_eq_false_iff_ne]; exact hx, by rw [dotsP_cons, if_neg hx]⟩
    rw [e1.1] at hpre
    rw [e1.2]
    clear e1 h47 hl
    generalize bs p = S at *
    go_enter Tryz.func19, Tryz.ntmps19
    go_wp2_with (go_at_call 53; refine (hpre.out _).mono ?_; rintro e w' ⟨rfl, rfl⟩)
    go_ret
    exact ⟨rfl, Below.refl _ _⟩
end Go.Proofs.YtcpkkaimingnlaaGreatDoor
end
section
namespace Go.Proofs.YtcpkkaimingnlaaGreatDoor
open Go.RowKit

/-- Two blocks of links: the answer's, another one. -/
structure PG (w W : World) (g2 g : Nat) (c2 c : List Value) : Prop where
  b2 : Blk W g2 24 c2
  b : Blk W g 24 c
  bel : Below w.heap.size w W
  ne : g2 ≠ g
  h2 : w.heap.size ≤ g2
  h1 : w.heap.size ≤ g
theorem PG.call {w W W1 : World} {g2 g : Nat} {c2 c : List Value} (h : PG w W g2 g c2 c) (hb : Below W.heap.size W W1) : PG w W1 g2 g c2 c :=
  ⟨blk_below h.b2 hb (blk_lt h.b2), blk_below h.b hb (blk_lt h.b), h.bel.trans (hb.mono h.bel.size), h.ne, h.h2, h.h1⟩
theorem PG.set {w W W1 : World} {g2 g : Nat} {c2 c c' : List Value} (h : PG w W g2 g c2 c) (hb : Blk W1 g 24 c') (ht : Turned W W1 g) : PG w W1 g2 g c2 c' :=
  ⟨ht.blk h.b2 h.ne, hb, ht.below _ _ h.h1 h.bel, h.ne, h.h2, h.h1⟩
theorem PG.set2 {w W W1 : World} {g2 g : Nat} {c2 c c' : List Value} (h : PG w W g2 g c2 c) (hb : Blk W1 g2 24 c') (ht : Turned W W1 g2) : PG w W1 g2 g c' c :=
  ⟨hb, ht.blk h.b (Ne.symm h.ne), ht.below _ _ h.h2 h.bel, h.ne, h.h2, h.h1⟩
theorem PG.drew {w W : World} {g2 g : Nat} {c2 c : List Value} (h : PG w W g2 g c2 c) : PG w W.drew g2 g c2 c :=
  ⟨blk_drew h.b2, blk_drew h.b, h.bel.drew, h.ne, h.h2, h.h1⟩
def errI (r : Option Link) : Int := if r.isSome = true then 0 else 40
theorem parse_val (s : Bs) (w : World) (hT : Tabs w) (hmax : s.length ≤ 9223372036854775807) :
    Calls Tryz.prog 14 #[.string (bs s)] w fun e w' => e = .returned (.tuple #[.agg (lcs ((parseP s).getD Link.zero)).toArray, .int .i64 (errI (parseP s))]) ∧ Below w.heap.size w w' := parse_any s w hT hmax
theorem parse_path (s : Bs) : ((parseP s).getD Link.zero).path.length ≤ 2048 := by
  cases h : parseP s with
  | none => simp [Link.zero]
  | some l =>
    obtain ⟨h1, h2, _, _⟩ := (parseP_iff s l).1 h
    show l.path.length ≤ 2048
    have := congrArg List.length h2
    unfold printL at this
    simp only [List.length_append] at this
    omega
theorem dotted_val (s : Bs) : (dottedP s).getD Link.zero = { (parseP s).getD Link.zero with path := dotsP ((parseP s).getD Link.zero).path } := by
  unfold dottedP
  cases parseP s with
  | none => rfl
  | some l => rfl
theorem dotted_err (s : Bs) : errI (dottedP s) = errI (parseP s) := by
  unfold errI dottedP
  cases parseP s with
  | none => rfl
  | some l => rfl
theorem new_zcs (w : World) : Blk (w.alloc (.cells #[.string ⟨#[]⟩, .string ⟨#[]⟩, .int .i64 0, .string ⟨#[]⟩, .string ⟨#[]⟩, .string ⟨#[]⟩, .bool false, .bool false] 24)) w.heap.size 24 zcs := blk_new w 24 zcs.toArray
theorem lcs_len (l : Link) : (lcs l).length = 8 := rfl
theorem lcs_one (l : Link) : (lcs l).toArray.toList.all (·.oneCell') = true := rfl
set_option maxHeartbeats 4000000 in
set_option maxRecDepth 100000 in
theorem dotted_any (s : Bs) (w : World) (hT : Tabs w) (hmax : s.length ≤ 9223372036854775807) :
    Calls Tryz.prog 54 #[.string (bs s)] w fun e w' => e = .returned (.tuple #[.agg (lcs ((dottedP s).getD Link.zero)).toArray, .int .i64 (errI (dottedP s))]) ∧ Below w.heap.size w w' := by
  rw [dotted_val, dotted_err]
  have hpl := parse_path s
  have hparse := Lib.hid (fun W (h : Below w.heap.size w W) => parse_val s W (hT.below h) hmax)
  generalize (parseP s).getD Link.zero = L at *
  generalize errI (parseP s) = E at *
  have hdots := Lib.hid (fun W (h : Below w.heap.size w W) => dots_any L.path W (hT.below h) (by omega))
  generalize bs s = S at *
  have hA := Lib.hid (below_one w (.cells zcs.toArray 24))
  have hB0 : Blk (w.alloc (.cells zcs.toArray 24)) w.heap.size 24 zcs := by have := blk_new w 24 zcs.toArray; simpa using this
  have hB := Lib.hid hB0
  clear hB0
  clear hT hpl hmax
  have hv : (lcs { L with path := dotsP L.path }) = (lcs L).set 3 (.string (bs (dotsP L.path))) := rfl
  rw [hv]
  clear hv
  have e3 : (lcs L)[3]? = some (.string (bs L.path)) := rfl
  have el := lcs_len L
  have eo := lcs_one L
  have eo2 : ((lcs L).set 3 (.string (bs (dotsP L.path)))).toArray.toList.all (·.oneCell') = true := rfl
  obtain ⟨V, hV⟩ : ∃ V, V = lcs L := ⟨_, rfl⟩
  rw [← hV] at hparse e3 el eo eo2 ⊢
  have E3 := Lib.hid e3; have EL := Lib.hid el; have EO := Lib.hid eo; have EO2 := Lib.hid eo2
  clear e3 el eo eo2 hV
  go_enter Tryz.func54, Tryz.ntmps54
  go_upto_region 1 with fail
  obtain ⟨W0, hW0⟩ : ∃ W0, W0 = w.alloc (.cells zcs.toArray 24) := ⟨_, rfl⟩
  rw [← hW0] at hA hB
  rw [show w.alloc (.cells #[.string ⟨#[]⟩, .string ⟨#[]⟩, .int .i64 0, .string ⟨#[]⟩, .string ⟨#[]⟩, .string ⟨#[]⟩, .bool false, .bool false] 24) = W0 from hW0.symm]
  clear hW0
  go_upto_region 2 with (first | (go_at_call 14; refine (hparse.out _ hA.out).mono ?_; rintro e w1 ⟨rfl, hb1⟩; have HB1 := Lib.hid hb1; clear hb1) | (refine wpList_storeL rfl (.tmp 4) (.tmp 9) rfl w1.heap.size V.toArray (by rfl) (by rfl) zcs (new_zcs w1) (by rw [List.size_toArray]; exact EL.out) rfl EO.out ?_; intro W2 hb2 ht2; have HB2 := Lib.hid hb2; have HT2 := Lib.hid ht2; clear hb2 ht2))
  have hlt : w.heap.size < w1.heap.size := Nat.lt_of_lt_of_le (blk_lt hB.out) HB1.out.size
  have hpg : PG w W2 w.heap.size w1.heap.size zcs V := ⟨HT2.out.blk (blk_alloc (blk_below hB.out HB1.out (blk_lt hB.out)) _) (Nat.ne_of_lt hlt), by simpa using HB2.out, HT2.out.below _ _ (Nat.le_of_lt hlt) ((hA.out.trans (HB1.out.mono hA.out.size)).alloc (Nat.le_of_lt hlt) _), Nat.ne_of_lt hlt, Nat.le_refl _, Nat.le_of_lt hlt⟩
  have HP := Lib.hid hpg
  clear hpg HB2 HT2 hB hparse
  obtain ⟨g, hg⟩ : ∃ g, g = w1.heap.size := ⟨_, rfl⟩
  rw [← hg] at HP ⊢
  clear hlt hg HB1 hA
  have c3 : W2.cell? ⟨g, 3, none⟩ = some (.string (bs L.path)) := by rw [blk_cell HP.out.b 3]; exact E3.out
  go_upto_region 3 with (first | (go_at_call 19; refine (hdots.out _ HP.out.bel).mono ?_; rintro e w3 ⟨rfl, hb1⟩; have HP3 := Lib.hid (HP.out.call hb1); clear hb1) | (refine wpList_storeC rfl 9 (.tmp 14) (.tmp 13) rfl g 3 _ (by rfl) (by rfl) rfl info9 24 _ HP3.out.b (by rw [EL.out]; decide) ?_; intro W4 hb1 ht1; have HP4 := Lib.hid (HP3.out.set hb1 ht1); clear hb1 ht1))
  go_wp2_with (first | (refine wpList_loadL rfl (.tmp 4) rfl g (by rfl) _ HP4.out.b (by rw [List.length_set]; exact EL.out) ?_) | (refine wpList_storeL rfl (.tmp 2) (.tmp 15) rfl w.heap.size _ (by rfl) (by rfl) _ HP4.out.b2 (by rw [List.size_toArray, List.length_set]; exact EL.out) rfl EO2.out ?_; intro W9 hb9 ht9))
  refine bodyPost_ret (v := _) (results_link Tryz.results54 _ _ w.heap.size _ rfl hb9 (by rw [List.length_set]; exact EL.out)) rfl ?_
  exact ⟨rfl, ht9.below _ _ (Nat.le_refl _) HP4.out.bel⟩
end Go.Proofs.YtcpkkaimingnlaaGreatDoor
end
section
namespace Go.Proofs.YtcpkkaimingnlaaGreatDoor
open Go.RowKit

def ch4 : Bs := [58, 47, 63, 35]
theorem ix_lt (ch s : Bs) : Lib.indexAny s ch < s.length := by
    have h := stop_any ch s
    by_cases hI : Lib.indexAny s ch < 0
    · omega
    · rw [if_neg hI] at h
      have hl : stop ch s ≤ s.length := by unfold stop; exact (List.takeWhile_sublist _).length_le
      rcases Nat.lt_or_ge (stop ch s) s.length with h1 | h1
      · omega
      · exfalso
        have e : stop ch s = s.length := by omega
        have hn : Lib.indexAny s ch = -1 := by
          refine Lib.indexAny_none ?_
          intro j b hj hb
          have ht : s.takeWhile (out ch) = s := by
            rw [← take_stop, e, List.take_length]
          have hm : b ∈ s.takeWhile (out ch) := by rw [ht]; exact List.mem_of_getElem? hb
          have hp : out ch b = true := by
            have := List.all_takeWhile (l := s) (p := out ch)
            exact List.all_eq_true.1 this b hm
          simpa [out] using hp
        omega
theorem abs_no (l : Bs) (h : ¬ 0 < Lib.indexAny l ch4) : absP l = false := by
  unfold absP
  split
  · rename_i c r d r' h1
    have hs := stop_any ch4 (c :: r)
    have : ¬ 0 < stop [58, 47, 63, 35] (c :: r) := by
      intro h0
      by_cases hI : Lib.indexAny (c :: r) ch4 < 0
      · rw [if_pos hI] at hs
        have hd := drop_stop ch4 (c :: r)
        rw [show stop ch4 (c :: r) = (c :: r).length by omega, List.drop_length] at hd
        have h1' : (c :: r).dropWhile (out ch4) = d :: r' := h1
        rw [h1'] at hd; cases hd
      · rw [if_neg hI] at hs
        have h0' : 0 < stop ch4 (c :: r) := h0
        omega
    rw [decide_eq_false this]; rfl
  · rfl
theorem abs_yes (l : Bs) (m : Nat) (h : Lib.indexAny l ch4 = (m : Int)) (hm : 0 < m) : m < l.length ∧ absP l = ((l.getD m 0 == 58) && (alB (l.getD 0 0) && decide (57 < (l.getD 0 0).toNat))) := by
  have hlt := ix_lt ch4 l
  have hml : m < l.length := by omega
  refine ⟨hml, ?_⟩
  have hs := stop_any ch4 l
  rw [if_neg (by omega), h] at hs
  have hst : stop ch4 l = m := by omega
  have hd := drop_stop ch4 l
  rw [hst, List.drop_eq_getElem_cons hml] at hd
  have e : l.getD m 0 = l[m] := by simp [hml]
  unfold absP
  match l, hml, hst, hd, e with
  | c :: r, hml, hst, hd, e =>
    have hd' : (c :: r).dropWhile (out [58, 47, 63, 35]) = (c :: r)[m] :: List.drop (m + 1) (c :: r) := hd.symm
    rw [hd']
    have hst' : stop [58, 47, 63, 35] (c :: r) = m := hst
    dsimp only
    rw [hst', decide_eq_true hm, Bool.true_and, e]
    rfl
set_option maxHeartbeats 2000000 in
theorem abs_any (l : Bs) (hl : l.length ≤ 4000000) (w : World) :
    Calls Tryz.prog 52 #[.string (bs l)] w fun e w' => e = .returned (.bool (absP l)) ∧ Below w.heap.size w w' := by
  have hc := Lib.hid (ixany_any l ch4 (by decide) (by decide) (by decide) hl w)
  by_cases h0 : 0 < Lib.indexAny l ch4
  · obtain ⟨m, hm⟩ : ∃ m : Nat, Lib.indexAny l ch4 = (m : Int) := ⟨(Lib.indexAny l ch4).toNat, by omega⟩
    obtain ⟨hml, hP⟩ := abs_yes l m hm (by omega)
    rw [hm] at hc
    have hi1 := str_byte l m hml
    have hi2 := str_byte l 0 (by omega)
    have hi2 : ∀ W, (Instr.index 9 (.string (bs l)) (.int .i64 0)).run Tryz.prog W = .ok (.int .u8 (((l.getD 0 0).toNat : Nat) : Int)) W := hi2
    have hg : decide ((0 : Int) < (m : Int)) = true := decide_eq_true (by omega)
    rw [hP]
    have h44 := Lib.hid (fun W => letter_any (l.getD 0 0) W)
    have e1 := u8_beq (l.getD m 0) 58 58 rfl
    have e2 : decide ((57 : Int) < (((l.getD 0 0).toNat : Nat) : Int)) = decide (57 < (l.getD 0 0).toNat) := by
      rw [Bool.eq_iff_iff, decide_eq_true_eq, decide_eq_true_eq]; omega
    unfold u8v at h44
    generalize l.getD m 0 = d at *
    generalize l.getD 0 0 = c at *
    have e1 : ((d.toNat : Int) == 58) = (d == 58) := e1
    generalize hx : (d == 58) = x1 at *
    generalize hy : alB c = x2 at *
    generalize hz : decide (57 < c.toNat) = x3 at *
    have hm0 : 0 < m := by omega
    clear hP hm h0 hl hml hx hy hz
    generalize bs l = S at *
    cases x1 <;> cases x2 <;> cases x3
    all_goals
      go_enter Tryz.func52, Tryz.ntmps52
      go_wp2_with (first | (go_at_call 40; refine hc.out.mono ?_; rintro e w' ⟨rfl, hb⟩; have HB := Lib.hid hb; clear hb) | (go_at_call 44; refine (h44.out _).mono ?_; rintro e w' ⟨rfl, rfl⟩))
      all_goals first | (exfalso; omega) | (go_ret; exact ⟨rfl, HB.out⟩)
  · rw [abs_no l h0]
    have hg : decide ((0 : Int) < Lib.indexAny l ch4) = false := decide_eq_false h0
    generalize Lib.indexAny l ch4 = I at *
    clear h0 hl
    generalize bs l = S at *
    go_enter Tryz.func52, Tryz.ntmps52
    go_wp2_with (go_at_call 40; refine hc.out.mono ?_; rintro e w' ⟨rfl, hb⟩; have HB := Lib.hid hb; clear hb)
    go_ret
    exact ⟨rfl, HB.out⟩
end Go.Proofs.YtcpkkaimingnlaaGreatDoor
end
