/-
  Poller.Hear.
-/
import Derived.Test.YtcpkkaimingnlaaGreatDoorFA
set_option linter.unusedVariables false
set_option linter.unusedSimpArgs false
namespace Go.Proofs.YtcpkkaimingnlaaGreatDoor
open Go.RowKit

def HearP (lb : Bs) (R : Src × Bool) (w : World) (e : Ending) (w' : World) (P : World → Src → Prop) : Prop :=
  (∃ v, e = .returned (.tuple #[v, .bool R.2, .int .i64 0]) ∧ (R.2 = true → BOwn w' w.heap.size v lb) ∧ (R.2 = false → v = .slice none 0 0)) ∧ P w' R.1
theorem pow_bound (per F : Int) (h : 1 ≤ per ∧ per ≤ 1048576) (hF : 0 ≤ F ∧ F ≤ 6) : 1 ≤ per * 2 ^ F.toNat ∧ per * 2 ^ F.toNat ≤ 67108864 := by
  obtain ⟨k, hk⟩ : ∃ k, k = F.toNat := ⟨_, rfl⟩
  rw [← hk]
  have hk6 : k = 0 ∨ k = 1 ∨ k = 2 ∨ k = 3 ∨ k = 4 ∨ k = 5 ∨ k = 6 := by omega
  rcases hk6 with rfl | rfl | rfl | rfl | rfl | rfl | rfl <;> simp only [Int.reducePow] <;> omega
section
variable {w : World} {lo hi g : Nat} {A : Option Addr} {cap : Nat} {gs : List Nat} {per now : Int} {ss : List Src}
set_option maxHeartbeats 16000000 in
set_option maxRecDepth 100000 in
theorem hear_in (h : Pol w lo hi g A cap gs per now ss) (i : Nat) (hi' : i < gs.length) (a : Ans) (lb : Bs) (Ab : Option Addr) (cb : Nat) (hbd : a.body = .slice Ab lb.length cb)
    (hrd : ∀ W, Only (gs.getD i 0) (gs.getD i 0 + 1) w W → Rd W W.heap.size 1 Ab lb.length (Lib.byteCells lb)) (hll : lb.length ≤ 1000000000) (hout : (ss.getD i default).out = true) (hok : SOk (ss.getD i default))
    (hper : 1 ≤ per ∧ per ≤ 1048576) (hnow : 0 ≤ now ∧ now ≤ 1000000000) (hloc : a.loc.length ≤ 1000000) (het : a.etag.length ≤ 1000000) (hmo : a.mod.length ≤ 1000000)
    (w0 : World) (hT : Tabs w0) (hb0 : Below w0.heap.size w0 w) (hlo : w0.heap.size ≤ lo) :
    Calls Tryz.prog 32 #[ptr g, .int .i64 ((i : Nat) : Int), .agg (acs a).toArray] w fun e w' =>
      HearP lb (hearS per now (ss.getD i default) (if a.lost = true then 0 else a.status) (if a.lost = true then [] else a.loc) (if a.lost = true then [] else a.etag) (if a.lost = true then [] else a.mod) (if a.lost = true then 0 else lb.length)) w e w' (fun w' s' => Blk w' (gs.getD i 0) 90 (scs s') ∧ Only (gs.getD i 0) (gs.getD i 0 + 1) w w') := by
  have hs65 := Lib.hid (source_in (h.call (below_one w (.cells (acs a).toArray 48))) i hi')
  have h0 := Lib.hid (HS.start (a := a) (h.each i hi') h.head (fun e => h.ng (by rw [e]; exact mem_getD hi')))
  have hgl := (h.slo _ (mem_getD hi')).1
  have hT2 : ∀ W, Only (gs.getD i 0) (gs.getD i 0 + 1) w W → Tabs W := fun W ho => hT.below (ho.below (by omega) hb0.size hb0)
  have HT2 := Lib.hid hT2
  have HRD := Lib.hid hrd
  obtain ⟨hd, hhd⟩ : ∃ hd : List Value, hd = [.int .i64 per, .int .i64 now, .slice A gs.length cap] := ⟨_, rfl⟩
  have e0 : hd[0]? = some (.int .i64 per) := by rw [hhd]; rfl
  have e1 : hd[1]? = some (.int .i64 now) := by rw [hhd]; rfl
  have E0 := Lib.hid e0; have E1 := Lib.hid e1
  rw [← hhd] at h0
  generalize ss.getD i default = s at *
  generalize gs.getD i 0 = gi at *
  clear h hrd hT hb0 hlo hgl hT2 hi' hhd e0 e1
  obtain ⟨a1, ha1⟩ : ∃ a1, a1 = if a.lost = true then zeroAns else a := ⟨_, rfl⟩
  obtain ⟨n1, hn1⟩ : ∃ n1, n1 = if a.lost = true then 0 else lb.length := ⟨_, rfl⟩
  have hr1 : (if a.lost = true then 0 else a.status) = a1.status ∧ (if a.lost = true then [] else a.loc) = a1.loc ∧ (if a.lost = true then [] else a.etag) = a1.etag ∧ (if a.lost = true then [] else a.mod) = a1.mod := by
    rw [ha1]
    cases a.lost <;> exact ⟨rfl, rfl, rfl, rfl⟩
  have hbd1 : ∃ A1 c1, a1.body = .slice A1 n1 c1 := by
    rw [ha1, hn1]
    cases a.lost
    · exact ⟨Ab, cb, hbd⟩
    · exact ⟨none, 0, rfl⟩
  have hk1 : a1.status = 200 → a1 = a ∧ n1 = lb.length := by
    rw [ha1, hn1]
    cases a.lost
    · exact fun _ => ⟨rfl, rfl⟩
    · intro h; cases h
  have hloc1 : a1.loc.length ≤ 1000000 := by rw [ha1]; cases a.lost <;> first | exact hloc | exact Nat.zero_le _
  have het1 : a1.etag.length ≤ 1000000 := by rw [ha1]; cases a.lost <;> first | exact het | exact Nat.zero_le _
  have hmo1 : a1.mod.length ≤ 1000000 := by rw [ha1]; cases a.lost <;> first | exact hmo | exact Nat.zero_le _
  rw [hr1.1, hr1.2.1, hr1.2.2.1, hr1.2.2.2, ← hn1]
  have HK1 := Lib.hid hk1
  have HBD := Lib.hid hbd
  have HA1 := Lib.hid ha1
  clear hr1 ha1 hn1 hloc het hmo hk1 hbd
  obtain ⟨A1, c1, hbd1⟩ := hbd1
  have HBD1 := Lib.hid hbd1
  clear hbd1
  obtain ⟨R, hR⟩ : ∃ R, R = hearS per now s a1.status a1.loc a1.etag a1.mod n1 := ⟨_, rfl⟩
  rw [← hR]
  unfold hearS at hR
  obtain ⟨s1, hs1⟩ : ∃ s1 : Src, s1 = { s with out := false } := ⟨_, rfl⟩
  rw [← hs1] at hR
  unfold hearT at hR
  have HR := Lib.hid hR
  have HS1 := Lib.hid hs1
  have hok1 : SOk s1 := by rw [hs1]; exact ⟨hok.own, hok.beside, hok.etag, hok.mod, hok.fails, hok.hops⟩
  clear hR hok
  unfold ptr at *
  have c6 := h0.out.sc 6 (.bool s.out) rfl
  rw [hout] at c6
  go_enter Tryz.func32, Tryz.ntmps32
  go_upto_region 6 with (go_at_call 65; refine hs65.out.mono ?_; rintro e w' ⟨rfl, rfl⟩)
  go_upto_region 7 with ((with_reducible refine atC 30 ?_); refine wpList_storeC rfl 4 (.tmp 30) (.const (.bool false)) rfl gi 6 (.bool false) (by rfl) (by rfl) rfl info4 90 _ h0.out.src (by exact Nat.le_of_ble_eq_true rfl) ?_; intro W1 hb1 ht1; have H1a := Lib.hid (h0.out.set { s with out := false } hb1 ht1); clear hb1 ht1)
  have H1 := (show Hid (HS w W1 g gi hd s1 a) from Lib.hid (by have := H1a.out; rw [hs1]; exact this))
  clear c6 h0 H1a hs65 hs1 hout
  have k0 := H1.out.ac 0 (.bool a.lost) rfl
  simp only [Act.put]
  obtain ⟨lost, hlost⟩ : ∃ lost, lost = a.lost := ⟨_, rfl⟩
  have HLost := Lib.hid hlost
  rw [← hlost] at k0
  clear hlost
  go_upto_if 32 with fail
  go_cut [5] (fun v wx => v = .pointer (some ⟨w.heap.size, 0, none⟩) ∧ Hid (HS w wx g gi hd s1 a1))
  case first =>
    as_aux_lemma =>
      cases lost with
      | false =>
        have e := Lib.hid (show a1 = a by rw [HA1.out, ← HLost.out]; rfl)
        go_wp2_with fail
        go_meet
        exact ⟨rfl, by rw [e.out]; exact H1⟩
      | true =>
        have e := Lib.hid (show a1 = zeroAns by rw [HA1.out, ← HLost.out]; rfl)
        go_wp2_with (refine wpList_storeR rfl 48 (.tmp 5) (.tmp 33) rfl w.heap.size (acs zeroAns).toArray (by rfl) (by rfl) 48 _ H1.out.ans info48 rfl (by rw [← Array.all_toList]; rfl) ?_; intro W2 hb1 ht1; have H2 := Lib.hid (H1.out.setA zeroAns hb1 ht1); clear hb1 ht1)
        go_meet
        exact ⟨rfl, by rw [e.out]; exact H2⟩
  case rest =>
    as_aux_lemma =>
      obtain ⟨rfl, H2⟩ := hcut
      clear k0 H1 HA1 HLost
      have hop := Lib.hid (hop_any s1 a1 gi wc (HT2.out _ H2.out.only) H2.out.src hloc1 (by have := hok1.own; omega) (by have := hok1.beside; omega) (by have := hok1.hops; omega))
      obtain ⟨L, hL⟩ : ∃ L, L = ledP s1 a1.status a1.loc := ⟨_, rfl⟩
      rw [← hL] at hop
      have HL := Lib.hid hL
      clear hL
      unfold ptr at hop
      go_upto_region 13 with (first | ((with_reducible refine atD 36 ?_); refine wpList_loadR rfl 48 (.tmp 5) rfl w.heap.size (by rfl) 48 (acs a1) _ H2.out.ans Tryz.underlying48 rfl info48 ?_) | (go_at_call 66; refine hop.out.mono ?_; rintro e w3 ⟨⟨T, rfl, hTx⟩, hb1⟩; have H3 := Lib.hid (H2.out.call hb1); have HTx := Lib.hid hTx; clear hb1 hTx))
      clear H2 hop
      have k1 := H3.out.ac 1 (.int .i64 a1.status) rfl
      have k5 := H3.out.ac 5 a1.body rfl
      rw [HBD1.out] at k5
      obtain ⟨TK, hTK⟩ : ∃ TK, TK = (decide (a1.status = 200) && decide (n1 ≤ 65536)) := ⟨_, rfl⟩
      have HTK := Lib.hid hTK
      clear hTK
      go_cut [68] (fun v wx => v = .bool TK ∧ wx = w3)
      case first =>
        as_aux_lemma =>
          have q1 : (a1.status == 200) = decide (a1.status = 200) := by rw [Bool.eq_iff_iff, beq_iff_eq, decide_eq_true_eq]
          have q2 : decide (((n1 : Nat) : Int) ≤ 65536) = decide (n1 ≤ 65536) := by rw [Bool.eq_iff_iff, decide_eq_true_eq, decide_eq_true_eq]; omega
          have hTK := HTK.out
          generalize decide (a1.status = 200) = x1 at *
          generalize decide (n1 ≤ 65536) = x2 at *
          have HTK2 := Lib.hid hTK
          clear hTK HTK
          cases x1 <;> cases x2
          all_goals go_wp2_with fail
          all_goals go_meet
          all_goals exact ⟨by rw [HTK2.out]; rfl, rfl⟩
      case rest =>
        as_aux_lemma =>
          obtain ⟨rfl, rfl⟩ := hcut
          cases TK with
          | true =>
            have hr := HR.out
            rw [if_pos (by have := HTK.out; simp at this; exact this)] at hr
            have HR2 := Lib.hid hr
            obtain ⟨ha, hn⟩ := HK1.out (by have := HTK.out; simp at this; exact this.1)
            subst ha
            rw [hn] at HBD1
            have HRL := Lib.hid (show R.2 = true by rw [HR2.out])
            clear hr HTK HR k1 k5 hn HL HTx
            have k7 := H3.out.sc 7 (.int .i64 ((s1.hops : Nat) : Int)) rfl
            have k8 := H3.out.sc 8 (.bool s1.lasting) rfl
            have kb := H3.out.sc 1 (.string (bs s1.beside)) rfl
            obtain ⟨BB, hBB⟩ : ∃ BB, BB = (decide (0 < s1.hops) && s1.lasting) := ⟨_, rfl⟩
            have HBB := Lib.hid hBB
            clear hBB
            obtain ⟨OW, hOW⟩ : ∃ OW : Bs, OW = if 0 < s1.hops ∧ s1.lasting = true then s1.beside else s1.own := ⟨_, rfl⟩
            have HOW := Lib.hid hOW
            rw [← hOW] at HR2
            clear hOW
            go_upto_region 14 with fail
            go_cut [88] (fun v wx => v = .bool BB ∧ wx = wc)
            case first =>
              as_aux_lemma =>
                by_cases h0 : 0 < s1.hops
                · have t1 : decide (((s1.hops : Nat) : Int) > 0) = true := decide_eq_true (by omega)
                  have t3 : decide (0 < s1.hops) = true := decide_eq_true h0
                  have hbb := HBB.out
                  rw [t3, Bool.true_and] at hbb
                  have HBB2 := Lib.hid hbb
                  clear hbb h0
                  go_wp2_with fail
                  go_meet
                  exact ⟨by rw [HBB2.out], rfl⟩
                · have t1 : decide (((s1.hops : Nat) : Int) > 0) = false := decide_eq_false (by omega)
                  have t3 : decide (0 < s1.hops) = false := decide_eq_false h0
                  have hbb := HBB.out
                  rw [t3, Bool.false_and] at hbb
                  have HBB2 := Lib.hid hbb
                  clear hbb h0
                  go_wp2_with fail
                  go_meet
                  exact ⟨by rw [HBB2.out], rfl⟩
            case rest =>
              as_aux_lemma =>
                obtain ⟨rfl, rfl⟩ := hcut
                go_upto_if 88 with fail
                go_cut [9] (fun v wx => v = .pointer (some ⟨gi, 0, none⟩) ∧ Hid (HS w wx g gi hd { s1 with own := OW } a1))
                case first =>
                  as_aux_lemma =>
                    cases BB with
                    | false =>
                      have e := Lib.hid (show OW = s1.own by rw [HOW.out, if_neg (by have := HBB.out; simp at this; rintro ⟨h1, h2⟩; rw [this h1] at h2; cases h2)])
                      go_wp2_with fail
                      go_meet
                      exact ⟨rfl, by rw [e.out]; exact H3⟩
                    | true =>
                      have e := Lib.hid (show OW = s1.beside by rw [HOW.out, if_pos (by have := HBB.out; simp at this; exact this)])
                      go_wp2_with ((with_reducible refine atS 95 93 ?_); refine wpList_storeC rfl 9 (.tmp 95) (.tmp 93) rfl gi 0 (.string (bs s1.beside)) (by rfl) (by rfl) rfl info9 90 _ H3.out.src (by exact Nat.le_of_ble_eq_true rfl) ?_; intro W5 hb1 ht1; have H3b := Lib.hid (H3.out.set { s1 with own := s1.beside } hb1 ht1); clear hb1 ht1)
                      go_meet
                      exact ⟨rfl, by rw [e.out]; exact H3b⟩
                case rest =>
                  as_aux_lemma =>
                    obtain ⟨rfl, H4⟩ := hcut
                    clear k7 k8 kb H3 HOW HBB
                    have hset := Lib.hid (settle_any gi wc _ H4.out.src)
                    unfold ptr at hset
                    go_upto_region 17 with (go_at_call 67; refine hset.out.mono ?_; rintro e w5 ⟨rfl, hb1, ht1⟩; have H5 := Lib.hid (H4.out.set _ hb1 ht1); clear hb1 ht1)
                    clear H4 hset
                    obtain ⟨s5, hs5⟩ : ∃ s5, s5 = settleS { s1 with own := OW } := ⟨_, rfl⟩
                    rw [← hs5] at H5
                    have HS5 := Lib.hid hs5
                    clear hs5
                    have g0 := H5.out.drew.hc 0 _ E0.out
                    have g1 := H5.out.drew.hc 1 _ E1.out
                    have v1 : IntKind.i64.wrap (now + per) = now + per := IntWalk.i64_in _ (by omega)
                    refine wp_region_noPanic ?_
                    refine wp_region_held_drew (S := (fun W => W.cell? ⟨g, 0, none⟩ = some (.int .i64 per) ∧ W.cell? ⟨g, 1, none⟩ = some (.int .i64 now))) (by kernel_rfl) (by exact ⟨g0, g1⟩) (fun hHeld => ?_)
                    refine wpAnyH_take (i := 0) (v := ?v11) rfl (by kernel_rfl) (by kernel_rfl) (by kernel_rfl) (fun _ _ _ h => h) (Or.inl ⟨by kernel_rfl, ?y11⟩) (by assumption) ?t11
                    case y11 => (intro w hSw; (try dsimp only at hSw); go_simp; try with_reducible rfl)
                    try simp only [Act.put, List.getElem_toArray, List.getElem_cons_succ, List.getElem_cons_zero, List.setIfInBounds_toArray, List.set_cons_zero, List.set_cons_succ]
                    refine wpAnyH_take (i := 1) (v := ?v12) rfl (by kernel_rfl) (by kernel_rfl) (by kernel_rfl) (fun _ _ _ h => h) (Or.inl ⟨by kernel_rfl, ?y12⟩) (by assumption) ?t12
                    case y12 => (intro w hSw; (try dsimp only at hSw); go_simp; try with_reducible rfl)
                    try simp only [Act.put, List.getElem_toArray, List.getElem_cons_succ, List.getElem_cons_zero, List.setIfInBounds_toArray, List.set_cons_zero, List.set_cons_succ]
                    refine wpAnyH_take (i := 2) (v := ?v13) rfl (by kernel_rfl) (by kernel_rfl) (by kernel_rfl) (fun _ _ _ h => h) (Or.inl ⟨by kernel_rfl, ?y13⟩) (by assumption) ?t13
                    case y13 => (intro w hSw; (try dsimp only at hSw); go_simp; try with_reducible rfl)
                    try simp only [Act.put, List.getElem_toArray, List.getElem_cons_succ, List.getElem_cons_zero, List.setIfInBounds_toArray, List.set_cons_zero, List.set_cons_succ]
                    refine wpAnyH_take (i := 3) (v := ?v14) rfl (by kernel_rfl) (by kernel_rfl) (by kernel_rfl) (fun _ _ _ h => h) (Or.inl ⟨by kernel_rfl, ?y14⟩) (by assumption) ?t14
                    case y14 => (intro w hSw; (try dsimp only at hSw); go_simp; try with_reducible rfl)
                    try simp only [Act.put, List.getElem_toArray, List.getElem_cons_succ, List.getElem_cons_zero, List.setIfInBounds_toArray, List.set_cons_zero, List.set_cons_succ]
                    refine wpAnyH_take (i := 4) (v := ?v15) rfl (by kernel_rfl) (by kernel_rfl) (by kernel_rfl) (fun _ _ _ h => h) (Or.inl ⟨by kernel_rfl, ?y15⟩) (by assumption) ?t15
                    case y15 => (intro w hSw; (try dsimp only at hSw); go_simp; try with_reducible rfl)
                    try simp only [Act.put, List.getElem_toArray, List.getElem_cons_succ, List.getElem_cons_zero, List.setIfInBounds_toArray, List.set_cons_zero, List.set_cons_succ]
                    refine wpAnyH_take (i := 5) (v := ?v16) rfl (by kernel_rfl) (by kernel_rfl) (by kernel_rfl) (fun _ _ _ h => h) (Or.inl ⟨by kernel_rfl, ?y16⟩) (by assumption) ?t16
                    case y16 => (intro w hSw; (try dsimp only at hSw); go_simp; try with_reducible rfl)
                    try simp only [Act.put, List.getElem_toArray, List.getElem_cons_succ, List.getElem_cons_zero, List.setIfInBounds_toArray, List.set_cons_zero, List.set_cons_succ]
                    refine wpAnyH_take (i := 6) (v := ?v17) rfl (by kernel_rfl) (by kernel_rfl) (by kernel_rfl) (fun _ _ _ h => h) (Or.inl ⟨by kernel_rfl, ?y17⟩) (by assumption) ?t17
                    case y17 => (intro w hSw; (try dsimp only at hSw); go_simp; try with_reducible rfl)
                    try simp only [Act.put, List.getElem_toArray, List.getElem_cons_succ, List.getElem_cons_zero, List.setIfInBounds_toArray, List.set_cons_zero, List.set_cons_succ]
                    refine wpAnyH_take (i := 7) (v := ?v18) rfl (by kernel_rfl) (by kernel_rfl) (by kernel_rfl) (fun _ _ _ h => h) (Or.inl ⟨by kernel_rfl, ?y18⟩) (by assumption) ?t18
                    case y18 => (intro w hSw; (try dsimp only at hSw); go_simp; try with_reducible rfl)
                    try simp only [Act.put, List.getElem_toArray, List.getElem_cons_succ, List.getElem_cons_zero, List.setIfInBounds_toArray, List.set_cons_zero, List.set_cons_succ]
                    refine wpAnyH_take (i := 8) (v := ?v19) rfl (by kernel_rfl) (by kernel_rfl) (by kernel_rfl) (fun _ _ _ h => h) (Or.inl ⟨by kernel_rfl, ?y19⟩) (by assumption) ?t19
                    case y19 => (intro w hSw; (try dsimp only at hSw); go_simp; try with_reducible rfl)
                    try simp only [Act.put, List.getElem_toArray, List.getElem_cons_succ, List.getElem_cons_zero, List.setIfInBounds_toArray, List.set_cons_zero, List.set_cons_succ]
                    refine wpAnyH_take (i := 9) (v := ?v20) rfl (by kernel_rfl) (by kernel_rfl) (by kernel_rfl) (fun _ _ _ h => h) (Or.inl ⟨by kernel_rfl, ?y20⟩) (by assumption) ?t20
                    case y20 => (intro w hSw; (try dsimp only at hSw); go_simp; try with_reducible rfl)
                    try simp only [Act.put, List.getElem_toArray, List.getElem_cons_succ, List.getElem_cons_zero, List.setIfInBounds_toArray, List.set_cons_zero, List.set_cons_succ]
                    refine wpAnyH_take (i := 10) (v := .int .i64 (now + per)) rfl (by kernel_rfl) (by kernel_rfl) (by kernel_rfl) (fun _ _ _ h => h) (Or.inl ⟨by kernel_rfl, ?y21⟩) (by assumption) ?_
                    case y21 => (intro w hSw; (try dsimp only at hSw); go_simp; try with_reducible rfl)
                    try simp only [Act.put, List.getElem_toArray, List.getElem_cons_succ, List.getElem_cons_zero, List.setIfInBounds_toArray, List.set_cons_zero, List.set_cons_succ]
                    refine wpAnyH_take (i := 11) (v := ?v22) rfl (by kernel_rfl) (by kernel_rfl) (by kernel_rfl) (fun _ _ _ h => h) (Or.inl ⟨by kernel_rfl, ?y22⟩) (by assumption) ?t22
                    case y22 => (intro w hSw; (try dsimp only at hSw); go_simp; try with_reducible rfl)
                    try simp only [Act.put, List.getElem_toArray, List.getElem_cons_succ, List.getElem_cons_zero, List.setIfInBounds_toArray, List.set_cons_zero, List.set_cons_succ]
                    refine wpAnyH_take (i := 12) (v := ?v23) rfl (by kernel_rfl) (by kernel_rfl) (by kernel_rfl) (fun _ _ _ h => h) (Or.inl ⟨by kernel_rfl, ?y23⟩) (by assumption) ?t23
                    case y23 => (intro w hSw; (try dsimp only at hSw); go_simp; try with_reducible rfl)
                    try simp only [Act.put, List.getElem_toArray, List.getElem_cons_succ, List.getElem_cons_zero, List.setIfInBounds_toArray, List.set_cons_zero, List.set_cons_succ]
                    refine wpAnyH_storeC 13 rfl (by kernel_rfl) (by kernel_rfl) 3 (.tmp 110) (.tmp 108) rfl gi 2 (.int .i64 (now + per)) (by rfl) (by rfl) rfl info3 90 _ H5.out.drew.src (by exact Nat.le_of_ble_eq_true rfl) ?_
                    intro X1 hb1 ht1
                    have H5a := Lib.hid (H5.out.drew.set { s5 with due := now + per } hb1 ht1)
                    clear hb1 ht1
                    refine ⟨(by exact ⟨H5a.out.hc 0 _ E0.out, H5a.out.hc 1 _ E1.out⟩), fun hHeld => ?_⟩
                    try simp only [Act.put, List.getElem_toArray, List.getElem_cons_succ, List.getElem_cons_zero, List.setIfInBounds_toArray, List.set_cons_zero, List.set_cons_succ]
                    refine wpAnyH_take (i := 14) (v := ?v24) rfl (by kernel_rfl) (by kernel_rfl) (by kernel_rfl) (fun _ _ _ h => h) (Or.inl ⟨by kernel_rfl, ?y24⟩) (by assumption) ?t24
                    case y24 => (intro w hSw; (try dsimp only at hSw); go_simp; try with_reducible rfl)
                    try simp only [Act.put, List.getElem_toArray, List.getElem_cons_succ, List.getElem_cons_zero, List.setIfInBounds_toArray, List.set_cons_zero, List.set_cons_succ]
                    refine wpAnyH_take (i := 15) (v := ?v25) rfl (by kernel_rfl) (by kernel_rfl) (by kernel_rfl) (fun _ _ _ h => h) (Or.inl ⟨by kernel_rfl, ?y25⟩) (by assumption) ?t25
                    case y25 => (intro w hSw; (try dsimp only at hSw); go_simp; try with_reducible rfl)
                    try simp only [Act.put, List.getElem_toArray, List.getElem_cons_succ, List.getElem_cons_zero, List.setIfInBounds_toArray, List.set_cons_zero, List.set_cons_succ]
                    refine wpAnyH_storeC 16 rfl (by kernel_rfl) (by kernel_rfl) 3 (.tmp 112) (.const (.int .i64 0)) rfl gi 3 (.int .i64 0) (by rfl) (by rfl) rfl info3 90 _ H5a.out.src (by exact Nat.le_of_ble_eq_true rfl) ?_
                    intro X2 hb1 ht1
                    have H6 := Lib.hid (H5a.out.set { s5 with due := now + per, fails := 0 } hb1 ht1)
                    clear hb1 ht1
                    refine ⟨(by exact ⟨H6.out.hc 0 _ E0.out, H6.out.hc 1 _ E1.out⟩), fun hHeld => ?_⟩
                    try simp only [Act.put, List.getElem_toArray, List.getElem_cons_succ, List.getElem_cons_zero, List.setIfInBounds_toArray, List.set_cons_zero, List.set_cons_succ]
                    refine wpAnyH_done (by kernel_rfl) ?_ _
                    refine NoPanic.normal ?_
                    try simp only [Act.put, List.getElem_toArray, List.getElem_cons_succ, List.getElem_cons_zero, List.setIfInBounds_toArray, List.set_cons_zero, List.set_cons_succ]
                    clear hHeld H5a H5 g0 g1 v1
                    go_upto_region 18 with fail
                    have g3 := H6.out.drew.ac 3 _ rfl
                    have g4 := H6.out.drew.ac 4 _ rfl
                    refine wp_region_noPanic ?_
                    refine wp_region_held_drew (S := (fun W => W.cell? ⟨w.heap.size, 3, none⟩ = some (.string (bs a1.etag)) ∧ W.cell? ⟨w.heap.size, 4, none⟩ = some (.string (bs a1.mod)))) (by kernel_rfl) (by exact ⟨g3, g4⟩) (fun hHeld => ?_)
                    refine wpAnyH_take (i := 0) (v := ?v1) rfl (by kernel_rfl) (by kernel_rfl) (by kernel_rfl) (fun _ _ _ h => h) (Or.inl ⟨by kernel_rfl, ?y1⟩) (by assumption) ?t1
                    case y1 => (intro w hSw; (try dsimp only at hSw); go_simp; try with_reducible rfl)
                    try simp only [Act.put, List.getElem_toArray, List.getElem_cons_succ, List.getElem_cons_zero, List.setIfInBounds_toArray, List.set_cons_zero, List.set_cons_succ]
                    refine wpAnyH_take (i := 1) (v := ?v2) rfl (by kernel_rfl) (by kernel_rfl) (by kernel_rfl) (fun _ _ _ h => h) (Or.inl ⟨by kernel_rfl, ?y2⟩) (by assumption) ?t2
                    case y2 => (intro w hSw; (try dsimp only at hSw); go_simp; try with_reducible rfl)
                    try simp only [Act.put, List.getElem_toArray, List.getElem_cons_succ, List.getElem_cons_zero, List.setIfInBounds_toArray, List.set_cons_zero, List.set_cons_succ]
                    refine wpAnyH_take (i := 2) (v := ?v3) rfl (by kernel_rfl) (by kernel_rfl) (by kernel_rfl) (fun _ _ _ h => h) (Or.inl ⟨by kernel_rfl, ?y3⟩) (by assumption) ?t3
                    case y3 => (intro w hSw; (try dsimp only at hSw); go_simp; try with_reducible rfl)
                    try simp only [Act.put, List.getElem_toArray, List.getElem_cons_succ, List.getElem_cons_zero, List.setIfInBounds_toArray, List.set_cons_zero, List.set_cons_succ]
                    refine wpAnyH_take (i := 3) (v := ?v4) rfl (by kernel_rfl) (by kernel_rfl) (by kernel_rfl) (fun _ _ _ h => h) (Or.inl ⟨by kernel_rfl, ?y4⟩) (by assumption) ?t4
                    case y4 => (intro w hSw; (try dsimp only at hSw); go_simp; try with_reducible rfl)
                    try simp only [Act.put, List.getElem_toArray, List.getElem_cons_succ, List.getElem_cons_zero, List.setIfInBounds_toArray, List.set_cons_zero, List.set_cons_succ]
                    refine wpAnyH_take (i := 5) (v := ?v5) rfl (by kernel_rfl) (by kernel_rfl) (by kernel_rfl) (fun _ _ _ h => h) (Or.inl ⟨by kernel_rfl, ?y5⟩) (by assumption) ?t5
                    case y5 => (intro w hSw; (try dsimp only at hSw); go_simp; try with_reducible rfl)
                    try simp only [Act.put, List.getElem_toArray, List.getElem_cons_succ, List.getElem_cons_zero, List.setIfInBounds_toArray, List.set_cons_zero, List.set_cons_succ]
                    refine wpAnyH_take (i := 6) (v := ?v6) rfl (by kernel_rfl) (by kernel_rfl) (by kernel_rfl) (fun _ _ _ h => h) (Or.inl ⟨by kernel_rfl, ?y6⟩) (by assumption) ?t6
                    case y6 => (intro w hSw; (try dsimp only at hSw); go_simp; try with_reducible rfl)
                    try simp only [Act.put, List.getElem_toArray, List.getElem_cons_succ, List.getElem_cons_zero, List.setIfInBounds_toArray, List.set_cons_zero, List.set_cons_succ]
                    refine wpAnyH_ready (rs := [4]) (by kernel_rfl) (by simp) ?_
                    refine AllReadyH.cons rfl (fun KX hKX => ?_) AllReadyH.nil
                    go_simp
                    (refine (tag_any a1.etag _ het1).mono ?_; rintro e Y1 ⟨rfl, hb9⟩)
                    have H7 := Lib.hid (H6.out.drew.call hb9)
                    clear hb9
                    refine hKX.out _ _ (by exact ⟨H7.out.ac 3 _ rfl, H7.out.ac 4 _ rfl⟩) (fun hHeld => ?_)
                    clear hKX KX
                    try simp only [Act.put, List.getElem_toArray, List.getElem_cons_succ, List.getElem_cons_zero, List.setIfInBounds_toArray, List.set_cons_zero, List.set_cons_succ]
                    refine wpAnyH_ready (rs := [7]) (by kernel_rfl) (by simp) ?_
                    refine AllReadyH.cons rfl (fun KX hKX => ?_) AllReadyH.nil
                    go_simp
                    (refine (tag_any a1.mod _ hmo1).mono ?_; rintro e Y2 ⟨rfl, hb9⟩)
                    have H8 := Lib.hid (H7.out.call hb9)
                    clear hb9
                    refine hKX.out _ _ (by exact ⟨H8.out.ac 3 _ rfl, H8.out.ac 4 _ rfl⟩) (fun hHeld => ?_)
                    clear hKX KX
                    try simp only [Act.put, List.getElem_toArray, List.getElem_cons_succ, List.getElem_cons_zero, List.setIfInBounds_toArray, List.set_cons_zero, List.set_cons_succ]
                    refine wpAnyH_take (i := 8) (v := ?v7) rfl (by kernel_rfl) (by kernel_rfl) (by kernel_rfl) (fun _ _ _ h => h) (Or.inl ⟨by kernel_rfl, ?y7⟩) (by assumption) ?t7
                    case y7 => (intro w hSw; (try dsimp only at hSw); go_simp; try with_reducible rfl)
                    try simp only [Act.put, List.getElem_toArray, List.getElem_cons_succ, List.getElem_cons_zero, List.setIfInBounds_toArray, List.set_cons_zero, List.set_cons_succ]
                    refine wpAnyH_take (i := 9) (v := ?v8) rfl (by kernel_rfl) (by kernel_rfl) (by kernel_rfl) (fun _ _ _ h => h) (Or.inl ⟨by kernel_rfl, ?y8⟩) (by assumption) ?t8
                    case y8 => (intro w hSw; (try dsimp only at hSw); go_simp; try with_reducible rfl)
                    try simp only [Act.put, List.getElem_toArray, List.getElem_cons_succ, List.getElem_cons_zero, List.setIfInBounds_toArray, List.set_cons_zero, List.set_cons_succ]
                    refine wpAnyH_storeC 10 rfl (by kernel_rfl) (by kernel_rfl) 9 (.tmp 122) (.tmp 117) rfl gi 4 (.string (bs (tagP a1.etag))) (by rfl) (by rfl) rfl info9 90 _ H8.out.src (by exact Nat.le_of_ble_eq_true rfl) ?_
                    intro Y3 hb1 ht1
                    have H8a := Lib.hid (H8.out.set { s5 with due := now + per, fails := 0, etag := tagP a1.etag } hb1 ht1)
                    clear hb1 ht1
                    refine ⟨(by exact ⟨H8a.out.ac 3 _ rfl, H8a.out.ac 4 _ rfl⟩), fun hHeld => ?_⟩
                    try simp only [Act.put, List.getElem_toArray, List.getElem_cons_succ, List.getElem_cons_zero, List.setIfInBounds_toArray, List.set_cons_zero, List.set_cons_succ]
                    refine wpAnyH_take (i := 11) (v := ?v9) rfl (by kernel_rfl) (by kernel_rfl) (by kernel_rfl) (fun _ _ _ h => h) (Or.inl ⟨by kernel_rfl, ?y9⟩) (by assumption) ?t9
                    case y9 => (intro w hSw; (try dsimp only at hSw); go_simp; try with_reducible rfl)
                    try simp only [Act.put, List.getElem_toArray, List.getElem_cons_succ, List.getElem_cons_zero, List.setIfInBounds_toArray, List.set_cons_zero, List.set_cons_succ]
                    refine wpAnyH_take (i := 12) (v := ?v10) rfl (by kernel_rfl) (by kernel_rfl) (by kernel_rfl) (fun _ _ _ h => h) (Or.inl ⟨by kernel_rfl, ?y10⟩) (by assumption) ?t10
                    case y10 => (intro w hSw; (try dsimp only at hSw); go_simp; try with_reducible rfl)
                    try simp only [Act.put, List.getElem_toArray, List.getElem_cons_succ, List.getElem_cons_zero, List.setIfInBounds_toArray, List.set_cons_zero, List.set_cons_succ]
                    refine wpAnyH_storeC 13 rfl (by kernel_rfl) (by kernel_rfl) 9 (.tmp 124) (.tmp 120) rfl gi 5 (.string (bs (tagP a1.mod))) (by rfl) (by rfl) rfl info9 90 _ H8a.out.src (by exact Nat.le_of_ble_eq_true rfl) ?_
                    intro Y4 hb1 ht1
                    have H9a := Lib.hid (H8a.out.set { s5 with due := now + per, fails := 0, etag := tagP a1.etag, mod := tagP a1.mod } hb1 ht1)
                    clear hb1 ht1
                    refine ⟨(by exact ⟨H9a.out.ac 3 _ rfl, H9a.out.ac 4 _ rfl⟩), fun hHeld => ?_⟩
                    try simp only [Act.put, List.getElem_toArray, List.getElem_cons_succ, List.getElem_cons_zero, List.setIfInBounds_toArray, List.set_cons_zero, List.set_cons_succ]
                    refine wpAnyH_done (by kernel_rfl) ?_ _
                    refine NoPanic.normal ?_
                    try simp only [Act.put, List.getElem_toArray, List.getElem_cons_succ, List.getElem_cons_zero, List.setIfInBounds_toArray, List.set_cons_zero, List.set_cons_succ]
                    clear hHeld H6 H7 H8 H8a g3 g4
                    have H9 := Lib.hid (show HS w Y4 g gi hd { s5 with due := now + per, fails := 0, etag := tagP a1.etag, mod := tagP a1.mod } a1 from H9a.out)
                    clear H9a
                    have eR := Lib.hid (show R.1 = { s5 with due := now + per, fails := 0, etag := tagP a1.etag, mod := tagP a1.mod } from by rw [HR2.out, HS5.out]; rfl)
                    have eR2 := Lib.hid (show R.2 = true from by rw [HR2.out])
                    have k9 := H9.out.ac 5 a1.body rfl
                    rw [HBD.out] at k9
                    have hcl := Lib.hid (clone_any Ab cb lb Y4 hll (HRD.out _ H9.out.only))
                    clear HS5 HR2 HBD
                    go_wp2_with (go_at_call 69; refine hcl.out.mono ?_; rintro e w9 ⟨⟨v, rfl, hv⟩, hb9⟩; have H10 := Lib.hid (H9.out.call hb9); have HV := Lib.hid (own_base hv H9.out.only.size); clear hb9 hv)
                    go_ret3
                    exact ⟨⟨v, by rw [eR2.out]; rfl, fun _ => HV.out, fun h => by rw [eR2.out] at h; cases h⟩, by rw [eR.out]; exact H10.out.src, H10.out.only⟩
          | false =>
            have hr := HR.out
            rw [if_neg (by have := HTK.out; simp at this; omega)] at hr
            have HR2 := Lib.hid hr
            clear hr HTK HR k5
            have k7 := H3.out.sc 7 (.int .i64 ((s1.hops : Nat) : Int)) rfl
            have k4 := H3.out.sc 4 (.string (bs s1.etag)) rfl
            have k6 := H3.out.sc 5 (.string (bs s1.mod)) rfl
            obtain ⟨C3, hC3⟩ : ∃ C3, C3 = (decide (a1.status = 304) && (decide (s1.hops = 0) && decide (s1.etag ++ s1.mod ≠ []))) := ⟨_, rfl⟩
            have HC3 := Lib.hid hC3
            clear hC3
            go_upto_region 20 with fail
            go_cut [128] (fun v wx => v = .bool C3 ∧ Hid (HS w wx g gi hd s1 a1))
            case first =>
              as_aux_lemma =>
                have q1 : (a1.status == 304) = decide (a1.status = 304) := by rw [Bool.eq_iff_iff, beq_iff_eq, decide_eq_true_eq]
                have q2 : ((((s1.hops : Nat) : Int)) == 0) = decide (s1.hops = 0) := by rw [Bool.eq_iff_iff, beq_iff_eq, decide_eq_true_eq]; omega
                have q3 : (!(bs s1.etag ++ bs s1.mod).toList.isEmpty) = decide (s1.etag ++ s1.mod ≠ []) := by
                  rw [bs_cat, bs_toList]
                  cases s1.etag ++ s1.mod <;> rfl
                have hz : ¬ 9223372036854775807 < (bs s1.etag).size + (bs s1.mod).size := by rw [bs_size, bs_size]; have := hok1.etag; have := hok1.mod; omega
                have hC := HC3.out
                generalize decide (a1.status = 304) = x1 at *
                generalize decide (s1.hops = 0) = x2 at *
                generalize decide (s1.etag ++ s1.mod ≠ []) = x3 at *
                generalize bs s1.etag = SE at *
                generalize bs s1.mod = SM at *
                have HC := Lib.hid hC
                clear hC HC3 HR2 HL
                cases x1
                · go_quiet (fail)
                  go_wp2_with fail
                  go_meet
                  exact ⟨by rw [HC.out]; rfl, Lib.hid (H3.out.drewN _)⟩
                · cases x2
                  · go_quiet (fail)
                    go_wp2_with fail
                    go_meet
                    exact ⟨by rw [HC.out]; rfl, Lib.hid (H3.out.drewN _)⟩
                  · go_quiet (fail)
                    go_wp2_with fail
                    go_meet
                    exact ⟨by rw [HC.out]; rfl, Lib.hid (H3.out.drewN _)⟩
            case rest =>
              as_aux_lemma =>
                obtain ⟨rfl, H4⟩ := hcut
                clear k1 k7 k4 k6 H3
                cases C3 with
                | true =>
                  as_aux_lemma =>
                    have hr := HR2.out
                    rw [if_pos (by have := HC3.out; simp at this; refine ⟨this.1, this.2.1, fun h => ?_⟩; simp_all)] at hr
                    have eR := Lib.hid (show R.1 = { s1 with due := now + per, fails := 0 } from by rw [hr])
                    have eR2 := Lib.hid (show R.2 = false from by rw [hr])
                    clear hr HR2 HC3 HL
                    go_upto_region 21 with fail
                    have g0 := H4.out.drew.hc 0 _ E0.out
                    have g1 := H4.out.drew.hc 1 _ E1.out
                    have v1 : IntKind.i64.wrap (now + per) = now + per := IntWalk.i64_in _ (by omega)
                    refine wp_region_noPanic ?_
                    refine wp_region_held_drew (S := (fun W => W.cell? ⟨g, 0, none⟩ = some (.int .i64 per) ∧ W.cell? ⟨g, 1, none⟩ = some (.int .i64 now))) (by kernel_rfl) (by exact ⟨g0, g1⟩) (fun hHeld => ?_)
                    refine wpAnyH_take (i := 0) (v := ?v26) rfl (by kernel_rfl) (by kernel_rfl) (by kernel_rfl) (fun _ _ _ h => h) (Or.inl ⟨by kernel_rfl, ?y26⟩) (by assumption) ?t26
                    case y26 => (intro w hSw; (try dsimp only at hSw); go_simp; try with_reducible rfl)
                    try simp only [Act.put, List.getElem_toArray, List.getElem_cons_succ, List.getElem_cons_zero, List.setIfInBounds_toArray, List.set_cons_zero, List.set_cons_succ]
                    refine wpAnyH_take (i := 1) (v := ?v27) rfl (by kernel_rfl) (by kernel_rfl) (by kernel_rfl) (fun _ _ _ h => h) (Or.inl ⟨by kernel_rfl, ?y27⟩) (by assumption) ?t27
                    case y27 => (intro w hSw; (try dsimp only at hSw); go_simp; try with_reducible rfl)
                    try simp only [Act.put, List.getElem_toArray, List.getElem_cons_succ, List.getElem_cons_zero, List.setIfInBounds_toArray, List.set_cons_zero, List.set_cons_succ]
                    refine wpAnyH_take (i := 2) (v := ?v28) rfl (by kernel_rfl) (by kernel_rfl) (by kernel_rfl) (fun _ _ _ h => h) (Or.inl ⟨by kernel_rfl, ?y28⟩) (by assumption) ?t28
                    case y28 => (intro w hSw; (try dsimp only at hSw); go_simp; try with_reducible rfl)
                    try simp only [Act.put, List.getElem_toArray, List.getElem_cons_succ, List.getElem_cons_zero, List.setIfInBounds_toArray, List.set_cons_zero, List.set_cons_succ]
                    refine wpAnyH_take (i := 3) (v := ?v29) rfl (by kernel_rfl) (by kernel_rfl) (by kernel_rfl) (fun _ _ _ h => h) (Or.inl ⟨by kernel_rfl, ?y29⟩) (by assumption) ?t29
                    case y29 => (intro w hSw; (try dsimp only at hSw); go_simp; try with_reducible rfl)
                    try simp only [Act.put, List.getElem_toArray, List.getElem_cons_succ, List.getElem_cons_zero, List.setIfInBounds_toArray, List.set_cons_zero, List.set_cons_succ]
                    refine wpAnyH_take (i := 4) (v := ?v30) rfl (by kernel_rfl) (by kernel_rfl) (by kernel_rfl) (fun _ _ _ h => h) (Or.inl ⟨by kernel_rfl, ?y30⟩) (by assumption) ?t30
                    case y30 => (intro w hSw; (try dsimp only at hSw); go_simp; try with_reducible rfl)
                    try simp only [Act.put, List.getElem_toArray, List.getElem_cons_succ, List.getElem_cons_zero, List.setIfInBounds_toArray, List.set_cons_zero, List.set_cons_succ]
                    refine wpAnyH_take (i := 5) (v := ?v31) rfl (by kernel_rfl) (by kernel_rfl) (by kernel_rfl) (fun _ _ _ h => h) (Or.inl ⟨by kernel_rfl, ?y31⟩) (by assumption) ?t31
                    case y31 => (intro w hSw; (try dsimp only at hSw); go_simp; try with_reducible rfl)
                    try simp only [Act.put, List.getElem_toArray, List.getElem_cons_succ, List.getElem_cons_zero, List.setIfInBounds_toArray, List.set_cons_zero, List.set_cons_succ]
                    refine wpAnyH_take (i := 6) (v := ?v32) rfl (by kernel_rfl) (by kernel_rfl) (by kernel_rfl) (fun _ _ _ h => h) (Or.inl ⟨by kernel_rfl, ?y32⟩) (by assumption) ?t32
                    case y32 => (intro w hSw; (try dsimp only at hSw); go_simp; try with_reducible rfl)
                    try simp only [Act.put, List.getElem_toArray, List.getElem_cons_succ, List.getElem_cons_zero, List.setIfInBounds_toArray, List.set_cons_zero, List.set_cons_succ]
                    refine wpAnyH_take (i := 7) (v := ?v33) rfl (by kernel_rfl) (by kernel_rfl) (by kernel_rfl) (fun _ _ _ h => h) (Or.inl ⟨by kernel_rfl, ?y33⟩) (by assumption) ?t33
                    case y33 => (intro w hSw; (try dsimp only at hSw); go_simp; try with_reducible rfl)
                    try simp only [Act.put, List.getElem_toArray, List.getElem_cons_succ, List.getElem_cons_zero, List.setIfInBounds_toArray, List.set_cons_zero, List.set_cons_succ]
                    refine wpAnyH_take (i := 8) (v := ?v34) rfl (by kernel_rfl) (by kernel_rfl) (by kernel_rfl) (fun _ _ _ h => h) (Or.inl ⟨by kernel_rfl, ?y34⟩) (by assumption) ?t34
                    case y34 => (intro w hSw; (try dsimp only at hSw); go_simp; try with_reducible rfl)
                    try simp only [Act.put, List.getElem_toArray, List.getElem_cons_succ, List.getElem_cons_zero, List.setIfInBounds_toArray, List.set_cons_zero, List.set_cons_succ]
                    refine wpAnyH_take (i := 9) (v := ?v35) rfl (by kernel_rfl) (by kernel_rfl) (by kernel_rfl) (fun _ _ _ h => h) (Or.inl ⟨by kernel_rfl, ?y35⟩) (by assumption) ?t35
                    case y35 => (intro w hSw; (try dsimp only at hSw); go_simp; try with_reducible rfl)
                    try simp only [Act.put, List.getElem_toArray, List.getElem_cons_succ, List.getElem_cons_zero, List.setIfInBounds_toArray, List.set_cons_zero, List.set_cons_succ]
                    refine wpAnyH_take (i := 10) (v := .int .i64 (now + per)) rfl (by kernel_rfl) (by kernel_rfl) (by kernel_rfl) (fun _ _ _ h => h) (Or.inl ⟨by kernel_rfl, ?y36⟩) (by assumption) ?_
                    case y36 => (intro w hSw; (try dsimp only at hSw); go_simp; try with_reducible rfl)
                    try simp only [Act.put, List.getElem_toArray, List.getElem_cons_succ, List.getElem_cons_zero, List.setIfInBounds_toArray, List.set_cons_zero, List.set_cons_succ]
                    refine wpAnyH_take (i := 11) (v := ?v37) rfl (by kernel_rfl) (by kernel_rfl) (by kernel_rfl) (fun _ _ _ h => h) (Or.inl ⟨by kernel_rfl, ?y37⟩) (by assumption) ?t37
                    case y37 => (intro w hSw; (try dsimp only at hSw); go_simp; try with_reducible rfl)
                    try simp only [Act.put, List.getElem_toArray, List.getElem_cons_succ, List.getElem_cons_zero, List.setIfInBounds_toArray, List.set_cons_zero, List.set_cons_succ]
                    refine wpAnyH_take (i := 12) (v := ?v38) rfl (by kernel_rfl) (by kernel_rfl) (by kernel_rfl) (fun _ _ _ h => h) (Or.inl ⟨by kernel_rfl, ?y38⟩) (by assumption) ?t38
                    case y38 => (intro w hSw; (try dsimp only at hSw); go_simp; try with_reducible rfl)
                    try simp only [Act.put, List.getElem_toArray, List.getElem_cons_succ, List.getElem_cons_zero, List.setIfInBounds_toArray, List.set_cons_zero, List.set_cons_succ]
                    refine wpAnyH_storeC 13 rfl (by kernel_rfl) (by kernel_rfl) 3 (.tmp 163) (.tmp 161) rfl gi 2 (.int .i64 (now + per)) (by rfl) (by rfl) rfl info3 90 _ H4.out.drew.src (by exact Nat.le_of_ble_eq_true rfl) ?_
                    intro X1 hb1 ht1
                    have H5 := Lib.hid (H4.out.drew.set { s1 with due := now + per } hb1 ht1)
                    clear hb1 ht1
                    refine ⟨(by exact ⟨H5.out.hc 0 _ E0.out, H5.out.hc 1 _ E1.out⟩), fun hHeld => ?_⟩
                    try simp only [Act.put, List.getElem_toArray, List.getElem_cons_succ, List.getElem_cons_zero, List.setIfInBounds_toArray, List.set_cons_zero, List.set_cons_succ]
                    refine wpAnyH_take (i := 14) (v := ?v39) rfl (by kernel_rfl) (by kernel_rfl) (by kernel_rfl) (fun _ _ _ h => h) (Or.inl ⟨by kernel_rfl, ?y39⟩) (by assumption) ?t39
                    case y39 => (intro w hSw; (try dsimp only at hSw); go_simp; try with_reducible rfl)
                    try simp only [Act.put, List.getElem_toArray, List.getElem_cons_succ, List.getElem_cons_zero, List.setIfInBounds_toArray, List.set_cons_zero, List.set_cons_succ]
                    refine wpAnyH_take (i := 15) (v := ?v40) rfl (by kernel_rfl) (by kernel_rfl) (by kernel_rfl) (fun _ _ _ h => h) (Or.inl ⟨by kernel_rfl, ?y40⟩) (by assumption) ?t40
                    case y40 => (intro w hSw; (try dsimp only at hSw); go_simp; try with_reducible rfl)
                    try simp only [Act.put, List.getElem_toArray, List.getElem_cons_succ, List.getElem_cons_zero, List.setIfInBounds_toArray, List.set_cons_zero, List.set_cons_succ]
                    refine wpAnyH_storeC 16 rfl (by kernel_rfl) (by kernel_rfl) 3 (.tmp 165) (.const (.int .i64 0)) rfl gi 3 (.int .i64 0) (by rfl) (by rfl) rfl info3 90 _ H5.out.src (by exact Nat.le_of_ble_eq_true rfl) ?_
                    intro X2 hb1 ht1
                    have H6 := Lib.hid (H5.out.set { s1 with due := now + per, fails := 0 } hb1 ht1)
                    clear hb1 ht1
                    refine ⟨(by exact ⟨H6.out.hc 0 _ E0.out, H6.out.hc 1 _ E1.out⟩), fun hHeld => ?_⟩
                    try simp only [Act.put, List.getElem_toArray, List.getElem_cons_succ, List.getElem_cons_zero, List.setIfInBounds_toArray, List.set_cons_zero, List.set_cons_succ]
                    refine wpAnyH_done (by kernel_rfl) ?_ _
                    refine NoPanic.normal ?_
                    try simp only [Act.put, List.getElem_toArray, List.getElem_cons_succ, List.getElem_cons_zero, List.setIfInBounds_toArray, List.set_cons_zero, List.set_cons_succ]
                    clear hHeld H5 H4 g0 g1 v1
                    go_wp2_with fail
                    go_ret3
                    exact ⟨⟨_, by rw [eR2.out]; rfl, fun h => (by rw [eR2.out] at h; cases h), fun _ => rfl⟩, by rw [eR.out]; exact H6.out.src, H6.out.only⟩
                | false =>
                  have hr := HR2.out
                  rw [if_neg (by have := HC3.out; simp at this; rintro ⟨h1, h2, h3⟩; rcases this h1 h2 with h4; simp_all), ← HL.out] at hr
                  have HR3 := Lib.hid hr
                  clear hr HR2 HC3 HL
                  cases L with
                  | some tgt =>
                    as_aux_lemma =>
                      obtain rfl := HTx.out tgt rfl
                      obtain ⟨LS, hLS⟩ : ∃ LS, LS = ((decide (s1.hops = 0) || s1.lasting) && (decide (a1.status = 301) || decide (a1.status = 308))) := ⟨_, rfl⟩
                      have HLS := Lib.hid hLS
                      clear hLS
                      have eR := Lib.hid (show R.1 = { s1 with lasting := LS, hops := s1.hops + 1, beside := T, due := now + 1 } from by rw [HR3.out, HLS.out])
                      have eR2 := Lib.hid (show R.2 = false from by rw [HR3.out])
                      clear HR3 HTx
                      have k1 := H4.out.ac 1 (.int .i64 a1.status) rfl
                      have k7 := H4.out.sc 7 (.int .i64 ((s1.hops : Nat) : Int)) rfl
                      have k8 := H4.out.sc 8 (.bool s1.lasting) rfl
                      go_upto_region 23 with fail
                      go_cut [9] (fun v wx => v = .pointer (some ⟨gi, 0, none⟩) ∧ Hid (HS w wx g gi hd { s1 with lasting := LS } a1))
                      case first =>
                        as_aux_lemma =>
                          have q1 : (a1.status == 301) = decide (a1.status = 301) := by rw [Bool.eq_iff_iff, beq_iff_eq, decide_eq_true_eq]
                          have q2 : ((((s1.hops : Nat) : Int)) == 0) = decide (s1.hops = 0) := by rw [Bool.eq_iff_iff, beq_iff_eq, decide_eq_true_eq]; omega
                          have q3 : (a1.status == 308) = decide (a1.status = 308) := by rw [Bool.eq_iff_iff, beq_iff_eq, decide_eq_true_eq]
                          have hC := HLS.out
                          obtain ⟨las, hlas⟩ : ∃ las, las = s1.lasting := ⟨_, rfl⟩
                          rw [← hlas] at k8 hC
                          generalize decide (a1.status = 301) = x1 at *
                          generalize decide (s1.hops = 0) = x2 at *
                          generalize decide (a1.status = 308) = x3 at *
                          have HC := Lib.hid hC
                          clear hC HLS hlas
                          cases x2 <;> cases las <;> cases x1 <;> cases x3
                          all_goals go_wp2_with (first | ((with_reducible refine atS 191 189 ?_); refine wpList_storeC rfl 4 (.tmp 191) (.tmp 189) rfl gi 8 (.bool LS) (by rfl) (by rw [HC.out]; rfl) rfl info4 90 _ H4.out.src (by exact Nat.le_of_ble_eq_true rfl) ?_; intro W5 hb1 ht1; have H4b := Lib.hid (H4.out.set { s1 with lasting := LS } hb1 ht1); clear hb1 ht1))
                          all_goals go_meet
                          all_goals exact ⟨rfl, H4b⟩
                      case rest =>
                        as_aux_lemma =>
                          obtain ⟨rfl, H5⟩ := hcut
                          clear k1 k7 k8 H4 HLS
                          have k7 := H5.out.sc 7 (.int .i64 ((s1.hops : Nat) : Int)) rfl
                          have hh5 := hok1.hops
                          have v1 : IntKind.i64.wrap (((s1.hops : Nat) : Int) + 1) = ((s1.hops : Nat) : Int) + 1 := IntWalk.i64_in _ (by omega)
                          have v2 : IntKind.i64.wrap (now + 1) = now + 1 := IntWalk.i64_in _ (by omega)
                          go_wp2_with (first | ((with_reducible refine atS 198 196 ?_); refine wpList_storeC rfl 3 (.tmp 198) (.tmp 196) rfl gi 7 (.int .i64 (((s1.hops : Nat) : Int) + 1)) (by rfl) (by rfl) rfl info3 90 _ H5.out.src (by exact Nat.le_of_ble_eq_true rfl) ?_; intro X6 hb1 ht1; have H6 := Lib.hid (H5.out.set { s1 with lasting := LS, hops := s1.hops + 1 } hb1 ht1); have gn := H6.out.hc 1 _ E1.out; clear hb1 ht1) | ((with_reducible refine atS 202 200 ?_); refine wpList_storeC rfl 9 (.tmp 202) (.tmp 200) rfl gi 1 (.string (bs T)) (by rfl) (by rfl) rfl info9 90 _ H6.out.src (by exact Nat.le_of_ble_eq_true rfl) ?_; intro X7 hb1 ht1; have H7 := Lib.hid (H6.out.set { s1 with lasting := LS, hops := s1.hops + 1, beside := T } hb1 ht1); have gn2 := H7.out.hc 1 _ E1.out; clear hb1 ht1) | ((with_reducible refine atS 210 208 ?_); refine wpList_storeC rfl 3 (.tmp 210) (.tmp 208) rfl gi 2 (.int .i64 (now + 1)) (by rfl) (by rfl) rfl info3 90 _ H7.out.src (by exact Nat.le_of_ble_eq_true rfl) ?_; intro X8 hb1 ht1; have H8 := Lib.hid (H7.out.set { s1 with lasting := LS, hops := s1.hops + 1, beside := T, due := now + 1 } hb1 ht1); clear hb1 ht1))
                          go_ret3
                          exact ⟨⟨_, by rw [eR2.out]; rfl, fun h => (by rw [eR2.out] at h; cases h), fun _ => rfl⟩, by rw [eR.out]; exact H8.out.src, H8.out.only⟩
                  | none =>
                    as_aux_lemma =>
                      obtain ⟨F1, hF1⟩ : ∃ F1, F1 = min (s1.fails + 1) 6 := ⟨_, rfl⟩
                      have HF1 := Lib.hid hF1
                      obtain ⟨s5, hs5⟩ : ∃ s5, s5 = settleS s1 := ⟨_, rfl⟩
                      have eR := Lib.hid (show R.1 = { s5 with fails := F1, due := now + per * 2 ^ F1.toNat } from by rw [HR3.out, hs5, hF1])
                      have eR2 := Lib.hid (show R.2 = false from by rw [HR3.out])
                      have hf := hok1.fails
                      have hF : 0 ≤ F1 ∧ F1 ≤ 6 := by rw [hF1]; omega
                      have hset := Lib.hid (settle_any gi wc s1 H4.out.src)
                      rw [← hs5] at hset
                      unfold ptr at hset
                      have e3 : s5.fails = s1.fails := by rw [hs5]; rfl
                      clear HR3 HTx hs5 hF1
                      have v1 : IntKind.i64.wrap (s1.fails + 1) = s1.fails + 1 := IntWalk.i64_in _ (by omega)
                      go_upto_region 12 with (first | (go_at_call 67; refine hset.out.mono ?_; rintro e w5 ⟨rfl, hb1, ht1⟩; have H5 := Lib.hid (H4.out.set s5 hb1 ht1); clear hb1 ht1; have k3 := H5.out.sc 3 (.int .i64 s5.fails) rfl; rw [e3] at k3) | ((with_reducible refine atS 50 48 ?_); refine wpList_storeC rfl 3 (.tmp 50) (.tmp 48) rfl gi 3 (.int .i64 F1) (by rfl) (by rw [HF1.out]; rfl) rfl info3 90 _ H5.out.src (by exact Nat.le_of_ble_eq_true rfl) ?_; intro X6 hb1 ht1; have H6 := Lib.hid (H5.out.set { s5 with fails := F1 } hb1 ht1); clear hb1 ht1))
                      clear H4 hset H5
                      have hp := pow_bound per F1 hper hF
                      have v3 : IntKind.i64.wrap (per * 2 ^ F1.toNat) = per * 2 ^ F1.toNat := IntWalk.i64_in _ (by omega)
                      have v4 : IntKind.i64.wrap (now + per * 2 ^ F1.toNat) = now + per * 2 ^ F1.toNat := IntWalk.i64_in _ (by omega)
                      have g0 := H6.out.drew.hc 0 _ E0.out
                      have g1 := H6.out.drew.hc 1 _ E1.out
                      have g2 := H6.out.drew.sc 3 (.int .i64 F1) rfl
                      refine wp_region_noPanic ?_
                      refine wp_region_held_drew (S := (fun W => W.cell? ⟨g, 0, none⟩ = some (.int .i64 per) ∧ W.cell? ⟨g, 1, none⟩ = some (.int .i64 now) ∧ W.cell? ⟨gi, 3, none⟩ = some (.int .i64 F1))) (by kernel_rfl) (by exact ⟨g0, g1, g2⟩) (fun hHeld => ?_)
                      refine wpAnyH_take (i := 0) (v := ?v41) rfl (by kernel_rfl) (by kernel_rfl) (by kernel_rfl) (fun _ _ _ h => h) (Or.inl ⟨by kernel_rfl, ?y41⟩) (by assumption) ?t41
                      case y41 => (intro w hSw; (try dsimp only at hSw); go_simp; try with_reducible rfl)
                      try simp only [Act.put, List.getElem_toArray, List.getElem_cons_succ, List.getElem_cons_zero, List.setIfInBounds_toArray, List.set_cons_zero, List.set_cons_succ]
                      refine wpAnyH_take (i := 1) (v := ?v42) rfl (by kernel_rfl) (by kernel_rfl) (by kernel_rfl) (fun _ _ _ h => h) (Or.inl ⟨by kernel_rfl, ?y42⟩) (by assumption) ?t42
                      case y42 => (intro w hSw; (try dsimp only at hSw); go_simp; try with_reducible rfl)
                      try simp only [Act.put, List.getElem_toArray, List.getElem_cons_succ, List.getElem_cons_zero, List.setIfInBounds_toArray, List.set_cons_zero, List.set_cons_succ]
                      refine wpAnyH_take (i := 2) (v := ?v43) rfl (by kernel_rfl) (by kernel_rfl) (by kernel_rfl) (fun _ _ _ h => h) (Or.inl ⟨by kernel_rfl, ?y43⟩) (by assumption) ?t43
                      case y43 => (intro w hSw; (try dsimp only at hSw); go_simp; try with_reducible rfl)
                      try simp only [Act.put, List.getElem_toArray, List.getElem_cons_succ, List.getElem_cons_zero, List.setIfInBounds_toArray, List.set_cons_zero, List.set_cons_succ]
                      refine wpAnyH_take (i := 3) (v := ?v44) rfl (by kernel_rfl) (by kernel_rfl) (by kernel_rfl) (fun _ _ _ h => h) (Or.inl ⟨by kernel_rfl, ?y44⟩) (by assumption) ?t44
                      case y44 => (intro w hSw; (try dsimp only at hSw); go_simp; try with_reducible rfl)
                      try simp only [Act.put, List.getElem_toArray, List.getElem_cons_succ, List.getElem_cons_zero, List.setIfInBounds_toArray, List.set_cons_zero, List.set_cons_succ]
                      refine wpAnyH_take (i := 4) (v := ?v45) rfl (by kernel_rfl) (by kernel_rfl) (by kernel_rfl) (fun _ _ _ h => h) (Or.inl ⟨by kernel_rfl, ?y45⟩) (by assumption) ?t45
                      case y45 => (intro w hSw; (try dsimp only at hSw); go_simp; try with_reducible rfl)
                      try simp only [Act.put, List.getElem_toArray, List.getElem_cons_succ, List.getElem_cons_zero, List.setIfInBounds_toArray, List.set_cons_zero, List.set_cons_succ]
                      refine wpAnyH_take (i := 5) (v := ?v46) rfl (by kernel_rfl) (by kernel_rfl) (by kernel_rfl) (fun _ _ _ h => h) (Or.inl ⟨by kernel_rfl, ?y46⟩) (by assumption) ?t46
                      case y46 => (intro w hSw; (try dsimp only at hSw); go_simp; try with_reducible rfl)
                      try simp only [Act.put, List.getElem_toArray, List.getElem_cons_succ, List.getElem_cons_zero, List.setIfInBounds_toArray, List.set_cons_zero, List.set_cons_succ]
                      refine wpAnyH_take (i := 6) (v := ?v47) rfl (by kernel_rfl) (by kernel_rfl) (by kernel_rfl) (fun _ _ _ h => h) (Or.inl ⟨by kernel_rfl, ?y47⟩) (by assumption) ?t47
                      case y47 => (intro w hSw; (try dsimp only at hSw); go_simp; try with_reducible rfl)
                      try simp only [Act.put, List.getElem_toArray, List.getElem_cons_succ, List.getElem_cons_zero, List.setIfInBounds_toArray, List.set_cons_zero, List.set_cons_succ]
                      refine wpAnyH_take (i := 7) (v := ?v48) rfl (by kernel_rfl) (by kernel_rfl) (by kernel_rfl) (fun _ _ _ h => h) (Or.inl ⟨by kernel_rfl, ?y48⟩) (by assumption) ?t48
                      case y48 => (intro w hSw; (try dsimp only at hSw); go_simp; try with_reducible rfl)
                      try simp only [Act.put, List.getElem_toArray, List.getElem_cons_succ, List.getElem_cons_zero, List.setIfInBounds_toArray, List.set_cons_zero, List.set_cons_succ]
                      refine wpAnyH_take (i := 8) (v := ?v49) rfl (by kernel_rfl) (by kernel_rfl) (by kernel_rfl) (fun _ _ _ h => h) (Or.inl ⟨by kernel_rfl, ?y49⟩) (by assumption) ?t49
                      case y49 => (intro w hSw; (try dsimp only at hSw); go_simp; try with_reducible rfl)
                      try simp only [Act.put, List.getElem_toArray, List.getElem_cons_succ, List.getElem_cons_zero, List.setIfInBounds_toArray, List.set_cons_zero, List.set_cons_succ]
                      refine wpAnyH_take (i := 9) (v := ?v50) rfl (by kernel_rfl) (by kernel_rfl) (by kernel_rfl) (fun _ _ _ h => h) (Or.inl ⟨by kernel_rfl, ?y50⟩) (by assumption) ?t50
                      case y50 => (intro w hSw; (try dsimp only at hSw); go_simp; try with_reducible rfl)
                      try simp only [Act.put, List.getElem_toArray, List.getElem_cons_succ, List.getElem_cons_zero, List.setIfInBounds_toArray, List.set_cons_zero, List.set_cons_succ]
                      refine wpAnyH_take (i := 10) (v := ?v51) rfl (by kernel_rfl) (by kernel_rfl) (by kernel_rfl) (fun _ _ _ h => h) (Or.inl ⟨by kernel_rfl, ?y51⟩) (by assumption) ?t51
                      case y51 => (intro w hSw; (try dsimp only at hSw); go_simp; try with_reducible rfl)
                      try simp only [Act.put, List.getElem_toArray, List.getElem_cons_succ, List.getElem_cons_zero, List.setIfInBounds_toArray, List.set_cons_zero, List.set_cons_succ]
                      refine wpAnyH_take (i := 11) (v := ?v52) rfl (by kernel_rfl) (by kernel_rfl) (by kernel_rfl) (fun _ _ _ h => h) (Or.inl ⟨by kernel_rfl, ?y52⟩) (by assumption) ?t52
                      case y52 => (intro w hSw; (try dsimp only at hSw); go_simp; try with_reducible rfl)
                      try simp only [Act.put, List.getElem_toArray, List.getElem_cons_succ, List.getElem_cons_zero, List.setIfInBounds_toArray, List.set_cons_zero, List.set_cons_succ]
                      refine wpAnyH_take (i := 12) (v := ?v53) rfl (by kernel_rfl) (by kernel_rfl) (by kernel_rfl) (fun _ _ _ h => h) (Or.inl ⟨by kernel_rfl, ?y53⟩) (by assumption) ?t53
                      case y53 => (intro w hSw; (try dsimp only at hSw); go_simp; try with_reducible rfl)
                      try simp only [Act.put, List.getElem_toArray, List.getElem_cons_succ, List.getElem_cons_zero, List.setIfInBounds_toArray, List.set_cons_zero, List.set_cons_succ]
                      refine wpAnyH_take (i := 13) (v := .int .i64 (per * 2 ^ F1.toNat)) rfl (by kernel_rfl) (by kernel_rfl) (by kernel_rfl) (fun _ _ _ h => h) (Or.inl ⟨by kernel_rfl, ?y54⟩) (by assumption) ?_
                      case y54 => (intro w hSw; (try dsimp only at hSw); go_simp; try with_reducible rfl)
                      try simp only [Act.put, List.getElem_toArray, List.getElem_cons_succ, List.getElem_cons_zero, List.setIfInBounds_toArray, List.set_cons_zero, List.set_cons_succ]
                      refine wpAnyH_take (i := 14) (v := .int .i64 (now + per * 2 ^ F1.toNat)) rfl (by kernel_rfl) (by kernel_rfl) (by kernel_rfl) (fun _ _ _ h => h) (Or.inl ⟨by kernel_rfl, ?y55⟩) (by assumption) ?_
                      case y55 => (intro w hSw; (try dsimp only at hSw); go_simp; try with_reducible rfl)
                      try simp only [Act.put, List.getElem_toArray, List.getElem_cons_succ, List.getElem_cons_zero, List.setIfInBounds_toArray, List.set_cons_zero, List.set_cons_succ]
                      refine wpAnyH_take (i := 15) (v := ?v56) rfl (by kernel_rfl) (by kernel_rfl) (by kernel_rfl) (fun _ _ _ h => h) (Or.inl ⟨by kernel_rfl, ?y56⟩) (by assumption) ?t56
                      case y56 => (intro w hSw; (try dsimp only at hSw); go_simp; try with_reducible rfl)
                      try simp only [Act.put, List.getElem_toArray, List.getElem_cons_succ, List.getElem_cons_zero, List.setIfInBounds_toArray, List.set_cons_zero, List.set_cons_succ]
                      refine wpAnyH_take (i := 16) (v := ?v57) rfl (by kernel_rfl) (by kernel_rfl) (by kernel_rfl) (fun _ _ _ h => h) (Or.inl ⟨by kernel_rfl, ?y57⟩) (by assumption) ?t57
                      case y57 => (intro w hSw; (try dsimp only at hSw); go_simp; try with_reducible rfl)
                      try simp only [Act.put, List.getElem_toArray, List.getElem_cons_succ, List.getElem_cons_zero, List.setIfInBounds_toArray, List.set_cons_zero, List.set_cons_succ]
                      refine wpAnyH_storeC 17 rfl (by kernel_rfl) (by kernel_rfl) 3 (.tmp 67) (.tmp 65) rfl gi 2 (.int .i64 (now + per * 2 ^ F1.toNat)) (by rfl) (by rfl) rfl info3 90 _ H6.out.drew.src (by exact Nat.le_of_ble_eq_true rfl) ?_
                      intro X7 hb1 ht1
                      have H7 := Lib.hid (H6.out.drew.set { s5 with fails := F1, due := now + per * 2 ^ F1.toNat } hb1 ht1)
                      clear hb1 ht1
                      refine ⟨(by exact ⟨H7.out.hc 0 _ E0.out, H7.out.hc 1 _ E1.out, H7.out.sc 3 _ rfl⟩), fun hHeld => ?_⟩
                      try simp only [Act.put, List.getElem_toArray, List.getElem_cons_succ, List.getElem_cons_zero, List.setIfInBounds_toArray, List.set_cons_zero, List.set_cons_succ]
                      refine wpAnyH_done (by kernel_rfl) ?_ _
                      refine NoPanic.normal ?_
                      try simp only [Act.put, List.getElem_toArray, List.getElem_cons_succ, List.getElem_cons_zero, List.setIfInBounds_toArray, List.set_cons_zero, List.set_cons_succ]
                      clear hHeld H6 g0 g1 g2
                      go_wp2_with fail
                      go_ret3
                      exact ⟨⟨_, by rw [eR2.out]; rfl, fun h => (by rw [eR2.out] at h; cases h), fun _ => rfl⟩, by rw [eR.out]; exact H7.out.src, H7.out.only⟩
end
end Go.Proofs.YtcpkkaimingnlaaGreatDoor
