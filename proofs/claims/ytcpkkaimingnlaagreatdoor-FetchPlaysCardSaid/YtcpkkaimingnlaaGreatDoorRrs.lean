/-
  The document's dotted, and its Resolve.
-/
import Derived.Test.YtcpkkaimingnlaaGreatDoorLlp
import Derived.Test.YtcpkkaimingnlaaGreatDoorMK
set_option linter.unusedVariables false
set_option linter.unusedSimpArgs false
namespace Go.Proofs.YtcpkkaimingnlaaGreatDoor
open Go.RowKit

theorem len_app {x y : Bs} {m n : Nat} (hx : x.length ≤ m) (hy : y.length ≤ n) : (x ++ y).length ≤ m + n := by rw [List.length_append]; omega
theorem pre2 : ∀ (s : Bs), 1 < s.length → Lib.hasPrefix s [47, 47] = (s.take 2 == [47, 47])
  | [], h => by cases h
  | [_], h => absurd h (by rw [List.length_singleton]; omega)
  | a :: b :: r, _ => by
    rw [Bool.eq_iff_iff]
    simp [Lib.hasPrefix, List.isPrefixOf]
    constructor <;> rintro ⟨h1, h2⟩ <;> exact ⟨h1.symm, h2.symm⟩
theorem pre1 : ∀ (s : Bs), 0 < s.length → Lib.hasPrefix s [47] = (s.getD 0 0 == 47)
  | [], h => by cases h
  | a :: r, _ => by
    rw [Bool.eq_iff_iff]
    simp [Lib.hasPrefix, List.isPrefixOf]
    constructor <;> intro h1 <;> exact h1.symm
theorem dotted_some (s : Bs) : (dottedP s).isSome = (parseP s).isSome := by
  unfold dottedP
  cases parseP s with
  | none => rfl
  | some l => rfl
set_option maxHeartbeats 4000000 in
set_option maxRecDepth 100000 in
theorem rdotted_any (s : Bs) (w : World) (hmax : s.length ≤ 9223372036854775807) :
    Calls Tryz.prog 56 #[.string (bs s)] w fun e w' => e = .returned (.tuple #[.agg (lcs ((dottedP s).getD Link.zero)).toArray, .bool (dottedP s).isSome]) ∧ Below w.heap.size w w' := by
  rw [dotted_val, dotted_some]
  have hpl := parse_path s
  have hparse := Lib.hid (fun W (_ : Below w.heap.size w W) => rparse_val s W hmax)
  generalize (parseP s).getD Link.zero = L at *
  generalize (parseP s).isSome = E at *
  have hdots := Lib.hid (fun W (_ : Below w.heap.size w W) => rdots_any L.path W (by omega))
  generalize bs s = S at *
  have hA := Lib.hid (below_one w (.cells zcs.toArray 24))
  have hB0 : Blk (w.alloc (.cells zcs.toArray 24)) w.heap.size 24 zcs := by have := blk_new w 24 zcs.toArray; simpa using this
  have hB := Lib.hid hB0
  clear hB0
  clear hpl hmax
  have hv : (lcs { L with path := dotsP L.path }) = (lcs L).set 3 (.string (bs (dotsP L.path))) := rfl
  rw [hv]
  clear hv
  have e3 : (lcs L)[3]? = some (.string (bs L.path)) := rfl
  have el := lcs_len L
  have eo := lcs_one L
  have eo2 : ((lcs L).set 3 (.string (bs (dotsP L.path)))).toArray.toList.all (·.oneCell') = true := rfl
  obtain ⟨V, hV⟩ : ∃ V, V = lcs L := ⟨_, rfl⟩
  rw [← hV] at hparse e3 el eo eo2 ⊢
  have E3 := Lib.hid e3; have EL := Lib.hid el; have EO := Lib.hid eo; have EO2 := Lib.hid eo2
  clear e3 el eo eo2 hV
  go_enter Tryz.func56, Tryz.ntmps56
  go_upto_region 1 with fail
  obtain ⟨W0, hW0⟩ : ∃ W0, W0 = w.alloc (.cells zcs.toArray 24) := ⟨_, rfl⟩
  rw [← hW0] at hA hB
  rw [show w.alloc (.cells #[.string ⟨#[]⟩, .string ⟨#[]⟩, .int .i64 0, .string ⟨#[]⟩, .string ⟨#[]⟩, .string ⟨#[]⟩, .bool false, .bool false] 24) = W0 from hW0.symm]
  clear hW0
  go_upto_region 2 with (first | (go_at_call 15; refine (hparse.out _ hA.out).mono ?_; rintro e w1 ⟨rfl, hb1⟩; have HB1 := Lib.hid hb1; clear hb1) | (refine wpList_storeL rfl (.tmp 4) (.tmp 9) rfl w1.heap.size V.toArray (by rfl) (by rfl) zcs (new_zcs w1) (by rw [List.size_toArray]; exact EL.out) rfl EO.out ?_; intro W2 hb2 ht2; have HB2 := Lib.hid hb2; have HT2 := Lib.hid ht2; clear hb2 ht2))
  have hlt : w.heap.size < w1.heap.size := Nat.lt_of_lt_of_le (blk_lt hB.out) HB1.out.size
  have hpg : PG w W2 w.heap.size w1.heap.size zcs V := ⟨HT2.out.blk (blk_alloc (blk_below hB.out HB1.out (blk_lt hB.out)) _) (Nat.ne_of_lt hlt), by simpa using HB2.out, HT2.out.below _ _ (Nat.le_of_lt hlt) ((hA.out.trans (HB1.out.mono hA.out.size)).alloc (Nat.le_of_lt hlt) _), Nat.ne_of_lt hlt, Nat.le_refl _, Nat.le_of_lt hlt⟩
  have HP := Lib.hid hpg
  clear hpg HB2 HT2 hB hparse
  obtain ⟨g, hg⟩ : ∃ g, g = w1.heap.size := ⟨_, rfl⟩
  rw [← hg] at HP ⊢
  clear hlt hg HB1 hA
  have c3 : W2.cell? ⟨g, 3, none⟩ = some (.string (bs L.path)) := by rw [blk_cell HP.out.b 3]; exact E3.out
  go_upto_region 3 with (first | (go_at_call 20; refine (hdots.out _ HP.out.bel).mono ?_; rintro e w3 ⟨rfl, hb1⟩; have HP3 := Lib.hid (HP.out.call hb1); clear hb1) | (refine wpList_storeC rfl 9 (.tmp 14) (.tmp 13) rfl g 3 _ (by rfl) (by rfl) rfl info9 24 _ HP3.out.b (by rw [EL.out]; decide) ?_; intro W4 hb1 ht1; have HP4 := Lib.hid (HP3.out.set hb1 ht1); clear hb1 ht1))
  go_wp2_with (first | (refine wpList_loadL rfl (.tmp 4) rfl g (by rfl) _ HP4.out.b (by rw [List.length_set]; exact EL.out) ?_) | (refine wpList_storeL rfl (.tmp 2) (.tmp 15) rfl w.heap.size _ (by rfl) (by rfl) _ HP4.out.b2 (by rw [List.size_toArray, List.length_set]; exact EL.out) rfl EO2.out ?_; intro W9 hb9 ht9))
  refine bodyPost_ret (v := _) (results_link Tryz.results56 _ _ w.heap.size _ rfl hb9 (by rw [List.length_set]; exact EL.out)) rfl ?_
  exact ⟨rfl, ht9.below _ _ (Nat.le_refl _) HP4.out.bel⟩

theorem rorigin_val (l : Link) (h : sB l) (w : World) : Calls Tryz.prog 57 #[.agg (lcs l).toArray] w fun e w' => e = .returned (.string (bs (originL l))) ∧ Below w.heap.size w w' :=
  rorigin_any l w ⟨by have := h.1; omega, by have := h.2.1; omega, h.2.2.1⟩
/-- What Resolve's walk knows of memory: the base's block, and the answer's. -/
structure RX (w W : World) (b : Link) : Prop where
  pg : ∃ c2 : List Value, c2.length = 8 ∧ PG w W (w.heap.size + 1) w.heap.size c2 (lcs b)
theorem RX.start (w : World) (b : Link) : RX w ((w.alloc (.cells (lcs b).toArray 24)).alloc (.cells #[.string ⟨#[]⟩, .string ⟨#[]⟩, .int .i64 0, .string ⟨#[]⟩, .string ⟨#[]⟩, .string ⟨#[]⟩, .bool false, .bool false] 24)) b := ⟨_, rfl, rs_start w (lcs b)⟩
theorem RX.call {w W W1 : World} {b : Link} (h : RX w W b) (hb : Below W.heap.size W W1) : RX w W1 b := by
  obtain ⟨c, hc, hp⟩ := h.pg
  exact ⟨c, hc, hp.call hb⟩
theorem RX.drew {w W : World} {b : Link} (h : RX w W b) : RX w W.drew b := by
  obtain ⟨c, hc, hp⟩ := h.pg
  exact ⟨c, hc, hp.drew⟩
theorem RX.set {w W W1 : World} {b : Link} {x : List Value} (h : RX w W b) (hx : x.length = 8) (hb : Blk W1 (w.heap.size + 1) 24 x) (ht : Turned W W1 (w.heap.size + 1)) : RX w W1 b := by
  obtain ⟨c, hc, hp⟩ := h.pg
  exact ⟨x, hx, hp.set2 hb ht⟩
theorem RX.blk {w W : World} {b : Link} (h : RX w W b) : Blk W w.heap.size 24 (lcs b) := by
  obtain ⟨c, hc, hp⟩ := h.pg
  exact hp.b
theorem RX.blk2 {w W : World} {b : Link} (h : RX w W b) : ∃ c2 : List Value, c2.length = 8 ∧ Blk W (w.heap.size + 1) 24 c2 := by
  obtain ⟨c, hc, hp⟩ := h.pg
  exact ⟨c, hc, hp.b2⟩
theorem RX.bel {w W : World} {b : Link} (h : RX w W b) : Below w.heap.size w W := by
  obtain ⟨c, hc, hp⟩ := h.pg
  exact hp.bel
theorem RX.cell {w W : World} {b : Link} (h : RX w W b) (i : Nat) (v : Value) (hv : (lcs b)[i]? = some v) : W.cell? ⟨w.heap.size, i, none⟩ = some v := (blk_cell h.blk i).trans hv
theorem wpList_storeX {ops : Array Oper} {rest : List Oper} {o : Oper} {a : Act} {w W : World} {Q : Exit → Act → World → Prop} {b : Link} (hgd : o.guard = none) (x y : Operand) (ho : o.op = .store 24 x y)
    (V : Link) (hx : a.eval x = .pointer (some ⟨w.heap.size + 1, 0, none⟩)) (hy : a.eval y = .agg (lcs V).toArray) (hr : RX w W b)
    (h : ∀ W', Blk W' (w.heap.size + 1) 24 (lcs V) → RX w W' b → wpList Tryz.prog ops Q rest (a.put o.dst undef) W') : wpList Tryz.prog ops Q (o :: rest) a W := by
  obtain ⟨c, hc, hb⟩ := hr.blk2
  exact wpList_storeL hgd x y ho (w.heap.size + 1) (lcs V).toArray hx hy c hb rfl hc rfl (fun W' hb' ht' => h W' hb' (hr.set rfl hb' ht'))
theorem wp_storeX {o : Oper} {a : Act} {w W : World} {K : Act → World → Prop} {Q : Exit → Act → World → Prop} {b : Link} (x y : Operand) (ho : o.op = .store 24 x y)
    (V : Link) (hx : a.eval x = .pointer (some ⟨w.heap.size + 1, 0, none⟩)) (hy : a.eval y = .agg (lcs V).toArray) (hr : RX w W b)
    (h : ∀ W', Blk W' (w.heap.size + 1) 24 (lcs V) → RX w W' b → K (a.put o.dst undef) W') : o.wp Tryz.prog a W K Q := by
  obtain ⟨c, hc, hb⟩ := hr.blk2
  have hb' := blk_setRow hb (lcs V)
  exact Go.wp_store_row 24 x y ho (w.heap.size + 1) (lcs V).toArray hx hy 24 c.toArray hb info24 (by rw [List.size_toArray, hc]; rfl) (by rw [← Array.all_toList]; rfl) (h _ hb' (hr.set rfl hb' (turned_setRow _ _ _)))
theorem run_loadX {o : Oper} {a : Act} {w W : World} {b : Link} (x : Operand) (ho : o.op = .load 24 x) (hx : a.eval x = .pointer (some ⟨w.heap.size, 0, none⟩)) (hr : RX w W b) :
    (execOp a.eval o).run Tryz.prog W = .ok (.value (.agg (lcs b).toArray)) W := by
  unfold execOp
  simp only [ho, hx, Instr.loadAt, Instr.sureAddr, Sem.run_bind, Sem.run_pure, Result.andThen_ok, run_loadVar_row (P := Tryz.prog) W w.heap.size 24 24 (lcs b).toArray (0, 0) _ hr.blk Tryz.underlying24 rfl info24]
def RPostR (R : Option Link) (w : World) (e : Ending) (w' : World) : Prop := e = .returned (.tuple #[.agg (lcs (R.getD Link.zero)).toArray, .bool R.isSome]) ∧ Below w.heap.size w w'
set_option maxHeartbeats 16000000 in
set_option maxRecDepth 100000 in
theorem rresolve_any (b : Link) (s : Bs) (w : World) (hB : sB b) (hs : s.length ≤ 1000000) :
    Calls Tryz.prog 18 #[.agg (lcs b).toArray, .string (bs s)] w (RPostR (resolveP b s) w) := by
  have hz : (bs s).size = s.length := bs_size s
  obtain ⟨E, hE⟩ : ∃ E, E = Ending.returned (.tuple #[.agg (lcs ((resolveP b s).getD Link.zero)).toArray, .bool (resolveP b s).isSome]) := ⟨_, rfl⟩
  unfold RPostR
  rw [← hE]
  have HE := Lib.hid hE
  have HR0 := Lib.hid (RX.start w b)
  have horg := Lib.hid (fun W => rorigin_val b hB W)
  have hpl := (print_len b hB).2
  have hb0 := hB.1
  have hb3 := hB.2.2.2.1
  have hb4 := hB.2.2.2.2.1
  have zS : (bs s).size ≤ 1000000 := by rw [bs_size]; exact hs
  have z0 : (bs b.scheme).size ≤ 100000 := by rw [bs_size]; exact hb0
  have z3 : (bs b.path).size ≤ 100000 := by rw [bs_size]; exact hb3
  have z4 : (bs b.query).size ≤ 100000 := by rw [bs_size]; exact hb4
  have zO : (bs (originL b)).size ≤ 300000 := by rw [bs_size]; exact hpl
  clear hE hB
  have hn := stop_le [58, 47, 63, 35] s
  have hu := Lib.hid (fun W => until_any s [58, 47, 63, 35] W (by omega) (by decide))
  have HAB := Lib.hid (absR_eq s)
  obtain ⟨A, hA⟩ : ∃ A, A = absR s := ⟨_, rfl⟩
  rw [← hA] at HAB
  unfold absR at hA
  obtain ⟨n, hne⟩ : ∃ n, n = stop [58, 47, 63, 35] s := ⟨_, rfl⟩
  rw [← hne] at hn hu hA
  have HA := Lib.hid hA
  clear hne hA
  go_enter Tryz.func18, Tryz.ntmps18
  go_upto_region 1 with fail
  obtain ⟨W0, hW0⟩ : ∃ W0, W0 = (w.alloc (.cells (lcs b).toArray 24)).alloc (.cells #[.string ⟨#[]⟩, .string ⟨#[]⟩, .int .i64 0, .string ⟨#[]⟩, .string ⟨#[]⟩, .string ⟨#[]⟩, .bool false, .bool false] 24) := ⟨_, rfl⟩
  rw [← hW0] at HR0
  try rw [← hW0]
  clear hW0
  go_upto_region 2 with (go_at_call 47; refine (hu.out _).mono ?_; rintro e w1 ⟨rfl, hb1⟩; have HR := Lib.hid (HR0.out.call hb1); clear hb1)
  clear HR0 hu
  go_cut [40] (fun v wx => v = .bool A ∧ wx = w1)
  case first =>
    as_aux_lemma =>
      have HX := Lib.hid (fun (i : Nat) (h : i < s.length) (W : World) => str_byte s i h W)
      by_cases h0 : 0 < n
      · have t1 : decide ((n : Int) > 0) = true := decide_eq_true (by omega)
        have t1b : decide (0 < n) = true := decide_eq_true h0
        by_cases h1 : n < s.length
        · have t2 : decide ((n : Int) < (s.length : Int)) = true := decide_eq_true (by omega)
          have t2b : decide (n < s.length) = true := decide_eq_true h1
          have hx := fun W => HX.out n h1 W
          have hx0 : ∀ W, (Instr.index 9 (.string (bs s)) (.int .i64 0)).run Tryz.prog W = .ok (.int .u8 (((s.getD 0 0).toNat : Nat) : Int)) W := fun W => HX.out 0 (by omega) W
          have hA := HA.out
          rw [decide_eq_true h0, decide_eq_true h1, Bool.true_and, Bool.true_and] at hA
          have hC := rletter_any (s.getD 0 0)
          obtain ⟨c, hc⟩ : ∃ c, c = s.getD n 0 := ⟨_, rfl⟩
          obtain ⟨d, hd⟩ : ∃ d, d = s.getD 0 0 := ⟨_, rfl⟩
          rw [← hc, ← hd] at hA
          simp only [← hc] at hx
          simp only [← hd] at hx0
          rw [← hd] at hC
          unfold u8v at hC
          have q1 : (((c.toNat : Nat) : Int) == 58) = (c == 58) := u8_beq c 58 58 rfl
          clear hc hd h0 h1 HX HA
          cases hc8 : (c == 58) with
          | false =>
            rw [hc8] at q1 hA
            have HA := Lib.hid hA
            clear hc8 hA hC
            go_wp2_with fail
            go_meet
            exact ⟨by rw [HA.out]; rfl, rfl⟩
          | true =>
            rw [hc8] at q1 hA
            cases ha : alB d with
            | false =>
              rw [ha] at hA hC
              have HA := Lib.hid hA
              have HC := Lib.hid hC
              clear hc8 hA hC ha
              go_wp2_with (go_at_call 49; refine (HC.out _).mono ?_; rintro e w9 ⟨rfl, rfl⟩)
              go_meet
              exact ⟨by rw [HA.out]; rfl, rfl⟩
            | true =>
              rw [ha] at hA hC
              have HA := Lib.hid hA
              have HC := Lib.hid hC
              clear hc8 hA hC ha
              by_cases h48 : d.toNat < 48
              · have u1 : decide (((d.toNat : Nat) : Int) < 48) = true := decide_eq_true (by omega)
                have hA2 := HA.out
                rw [decide_eq_true h48] at hA2
                have HA2 := Lib.hid hA2
                clear h48 hA2
                generalize ((d.toNat : Nat) : Int) = dn at *
                go_wp2_with (go_at_call 49; refine (HC.out _).mono ?_; rintro e w9 ⟨rfl, rfl⟩)
                go_meet
                exact ⟨by rw [HA2.out]; rfl, rfl⟩
              · have u1 : decide (((d.toNat : Nat) : Int) < 48) = false := decide_eq_false (by omega)
                have hA2 := HA.out
                rw [decide_eq_false h48] at hA2
                by_cases h57 : 57 < d.toNat
                · have u2 : decide (((d.toNat : Nat) : Int) > 57) = true := decide_eq_true (by omega)
                  rw [decide_eq_true h57] at hA2
                  have HA2 := Lib.hid hA2
                  clear h48 h57 hA2
                  generalize ((d.toNat : Nat) : Int) = dn at *
                  go_wp2_with (go_at_call 49; refine (HC.out _).mono ?_; rintro e w9 ⟨rfl, rfl⟩)
                  go_meet
                  exact ⟨by rw [HA2.out]; rfl, rfl⟩
                · have u2 : decide (((d.toNat : Nat) : Int) > 57) = false := decide_eq_false (by omega)
                  rw [decide_eq_false h57] at hA2
                  have HA2 := Lib.hid hA2
                  clear h48 h57 hA2
                  generalize ((d.toNat : Nat) : Int) = dn at *
                  go_wp2_with (go_at_call 49; refine (HC.out _).mono ?_; rintro e w9 ⟨rfl, rfl⟩)
                  go_meet
                  exact ⟨by rw [HA2.out]; rfl, rfl⟩
        · have t2 : decide ((n : Int) < (s.length : Int)) = false := decide_eq_false (by omega)
          have t2b : decide (n < s.length) = false := decide_eq_false h1
          have hA := HA.out
          rw [decide_eq_false h1, Bool.and_false] at hA
          have HA2 := Lib.hid hA
          clear hA h0 h1 HX HA
          go_wp2_with fail
          go_meet
          exact ⟨by rw [HA2.out]; rfl, rfl⟩
      · have t1 : decide ((n : Int) > 0) = false := decide_eq_false (by omega)
        have t1b : decide (0 < n) = false := decide_eq_false h0
        have hA := HA.out
        rw [decide_eq_false h0] at hA
        have HA2 := Lib.hid hA
        clear hA h0 HX HA
        go_wp2_with fail
        go_meet
        exact ⟨by rw [HA2.out]; rfl, rfl⟩
  case rest =>
    as_aux_lemma =>
      obtain ⟨rfl, rfl⟩ := hcut
      clear HA hn
      cases A with
      | true =>
        have hfin := Lib.hid (fun W => rparse_val (s) W (Nat.le_trans hs (by decide)))
        have hE2 : E = .returned (.tuple #[.agg (lcs ((parseP (s)).getD Link.zero)).toArray, .bool (parseP (s)).isSome]) := by rw [HE.out, show resolveP b s = parseP s by unfold resolveP; rw [if_pos HAB.out.symm]]
        obtain ⟨VR, hVR⟩ : ∃ VR, VR = (parseP (s)).getD Link.zero := ⟨_, rfl⟩
        obtain ⟨BR, hBR⟩ : ∃ BR, BR = (parseP (s)).isSome := ⟨_, rfl⟩
        rw [← hVR, ← hBR] at hfin hE2
        have HE2 := Lib.hid hE2
        clear hE2 hVR hBR
        go_wp2_with (first | (go_at_call 15; refine (hfin.out _).mono ?_; rintro e w2 ⟨rfl, hb1⟩; have HZ := Lib.hid (HR.out.call hb1); clear hb1) | ((with_reducible refine atS 4 43 ?_); refine wpList_storeX rfl (.tmp 4) (.tmp 43) rfl VR (by rfl) (by rfl) HZ.out ?_; intro W9 hb9 hr9))
        refine bodyPost_ret (v := _) (results_link Tryz.results18 _ _ (w.heap.size + 1) _ rfl hb9 rfl) rfl ?_
        exact ⟨HE2.out.symm, hr9.bel⟩
      | false =>
        have hab : absP s = false := HAB.out.symm
        have HAB2 := Lib.hid hab
        clear hab HAB
        obtain ⟨P2, hP2⟩ : ∃ P2, P2 = Lib.hasPrefix s [47, 47] := ⟨_, rfl⟩
        have HP2 := Lib.hid hP2
        clear hP2
        go_upto_region 4 with fail
        go_cut [52] (fun v wx => v = .bool P2 ∧ wx = wc)
        case first =>
          as_aux_lemma =>
            by_cases h1 : 1 < s.length
            · have t1 : decide ((s.length : Int) > 1) = true := decide_eq_true (by omega)
              have hto : ∀ W, (Instr.slice 9 (.string (bs s)) none (some (.int .i64 2)) none).run Tryz.prog W = .ok (.string (bs (s.take 2))) W := fun W => str_to s 2 (by omega) W
              have hP : P2 = (s.take 2 == [47, 47]) := HP2.out.trans (pre2 s h1)
              have q1 : ((bs (s.take 2)).toList == [47, 47]) = P2 := (eq_bs _ _).trans hP.symm
              generalize s.take 2 = T2 at *
              have HPP := Lib.hid hP
              clear hP h1
              cases P2
              all_goals go_wp2_with fail
              all_goals go_meet
              all_goals exact ⟨rfl, rfl⟩
            · have t1 : decide ((s.length : Int) > 1) = false := decide_eq_false (by omega)
              have hP : P2 = false := by
                rw [HP2.out]
                match s, h1 with
                | [], _ => rfl
                | [a], _ => show ((47 == a) && false) = false; rw [Bool.and_false]
                | a :: b :: r, h => exact absurd (by rw [List.length_cons, List.length_cons]; omega) h
              have HPP := Lib.hid hP
              clear hP h1
              go_wp2_with fail
              go_meet
              exact ⟨by rw [HPP.out], rfl⟩
        case rest =>
          as_aux_lemma =>
            obtain ⟨rfl, rfl⟩ := hcut
            cases P2 with
            | true =>
              have c0 := HR.out.cell 0 (.string (bs b.scheme)) rfl
              have hfin := Lib.hid (fun W => rdotted_any (b.scheme ++ [58] ++ s) W (Nat.le_trans (len_app (len_app hb0 (Nat.le_refl _)) hs) (by decide)))
              have hE2 : E = .returned (.tuple #[.agg (lcs ((dottedP (b.scheme ++ [58] ++ s)).getD Link.zero)).toArray, .bool (dottedP (b.scheme ++ [58] ++ s)).isSome]) := by rw [HE.out, show resolveP b s = dottedP (b.scheme ++ [58] ++ s) by unfold resolveP; rw [if_neg (by rw [HAB2.out]; decide), if_pos HP2.out.symm]]
              obtain ⟨VR, hVR⟩ : ∃ VR, VR = (dottedP (b.scheme ++ [58] ++ s)).getD Link.zero := ⟨_, rfl⟩
              obtain ⟨BR, hBR⟩ : ∃ BR, BR = (dottedP (b.scheme ++ [58] ++ s)).isSome := ⟨_, rfl⟩
              rw [← hVR, ← hBR] at hfin hE2
              have HE2 := Lib.hid hE2
              clear hE2 hVR hBR
              rw [← bs_cat, ← bs_cat] at hfin
              go_wp2_with (first | (go_at_call 56; refine (hfin.out _).mono ?_; rintro e w2 ⟨rfl, hb1⟩; have HZ := Lib.hid (HR.out.call hb1); clear hb1) | ((with_reducible refine atS 4 59 ?_); refine wpList_storeX rfl (.tmp 4) (.tmp 59) rfl VR (by rfl) (by rfl) HZ.out ?_; intro W9 hb9 hr9))
              refine bodyPost_ret (v := _) (results_link Tryz.results18 _ _ (w.heap.size + 1) _ rfl hb9 rfl) rfl ?_
              exact ⟨HE2.out.symm, hr9.bel⟩
            | false =>
              obtain ⟨P1, hP1⟩ : ∃ P1, P1 = Lib.hasPrefix s [47] := ⟨_, rfl⟩
              have HP1 := Lib.hid hP1
              clear hP1
              go_upto_region 6 with fail
              go_cut [68] (fun v wx => v = .bool P1 ∧ wx = wc)
              case first =>
                as_aux_lemma =>
                  by_cases h1 : 0 < s.length
                  · have t1 : decide ((s.length : Int) > 0) = true := decide_eq_true (by omega)
                    have t1b : decide (0 < s.length) = true := decide_eq_true h1
                    have hx : ∀ W, (Instr.index 9 (.string (bs s)) (.int .i64 0)).run Tryz.prog W = .ok (.int .u8 (((s.getD 0 0).toNat : Nat) : Int)) W := fun W => str_byte s 0 h1 W
                    have hP : P1 = (s.getD 0 0 == 47) := HP1.out.trans (pre1 s h1)
                    obtain ⟨c, hc⟩ : ∃ c, c = s.getD 0 0 := ⟨_, rfl⟩
                    simp only [← hc] at hx hP
                    have q1 : (((c.toNat : Nat) : Int) == 47) = P1 := (u8_beq c 47 47 rfl).trans hP.symm
                    clear hc hP h1
                    cases P1
                    all_goals go_wp2_with fail
                    all_goals go_meet
                    all_goals exact ⟨rfl, rfl⟩
                  · have t1 : decide ((s.length : Int) > 0) = false := decide_eq_false (by omega)
                    have t1b : decide (0 < s.length) = false := decide_eq_false h1
                    have hP : P1 = false := by
                      rw [HP1.out]
                      match s, h1 with
                      | [], _ => rfl
                      | a :: r, h => exact absurd (by rw [List.length_cons]; omega) h
                    have HPP := Lib.hid hP
                    clear hP h1
                    go_wp2_with fail
                    go_meet
                    exact ⟨by rw [HPP.out], rfl⟩
              case rest =>
                as_aux_lemma =>
                  obtain ⟨rfl, rfl⟩ := hcut
                  cases P1 with
                  | true =>
                    have hfin := Lib.hid (fun W => rdotted_any (originL b ++ s) W (Nat.le_trans (len_app hpl hs) (by decide)))
                    have hE2 : E = .returned (.tuple #[.agg (lcs ((dottedP (originL b ++ s)).getD Link.zero)).toArray, .bool (dottedP (originL b ++ s)).isSome]) := by rw [HE.out, show resolveP b s = dottedP (originL b ++ s) by unfold resolveP; rw [if_neg (by rw [HAB2.out]; decide), if_neg (by rw [← HP2.out]; decide), if_pos HP1.out.symm]]
                    obtain ⟨VR, hVR⟩ : ∃ VR, VR = (dottedP (originL b ++ s)).getD Link.zero := ⟨_, rfl⟩
                    obtain ⟨BR, hBR⟩ : ∃ BR, BR = (dottedP (originL b ++ s)).isSome := ⟨_, rfl⟩
                    rw [← hVR, ← hBR] at hfin hE2
                    have HE2 := Lib.hid hE2
                    clear hE2 hVR hBR
                    rw [← bs_cat] at hfin
                    go_wp2_with (first | ((with_reducible refine atD 69 ?_); refine wpList_loadL rfl (.tmp 2) rfl w.heap.size (by rfl) (lcs b) HR.out.blk rfl ?_) | (go_at_call 57; refine (horg.out _).mono ?_; rintro e w3 ⟨rfl, hb1⟩; have HY := Lib.hid (HR.out.call hb1); clear hb1) | (go_at_call 56; refine (hfin.out _).mono ?_; rintro e w2 ⟨rfl, hb1⟩; have HZ := Lib.hid (HY.out.call hb1); clear hb1) | ((with_reducible refine atS 4 74 ?_); refine wpList_storeX rfl (.tmp 4) (.tmp 74) rfl VR (by rfl) (by rfl) HZ.out ?_; intro W9 hb9 hr9))
                    refine bodyPost_ret (v := _) (results_link Tryz.results18 _ _ (w.heap.size + 1) _ rfl hb9 rfl) rfl ?_
                    exact ⟨HE2.out.symm, hr9.bel⟩
                  | false =>
                    obtain ⟨W1, hW1⟩ : ∃ W1, W1 = wc := ⟨_, rfl⟩
                    have c6 := HR.out.cell 6 (.bool b.hasQ) rfl
                    have c4 := HR.out.cell 4 (.string (bs b.query)) rfl
                    go_upto_if 77 with fail
                    go_cut [7] (fun v wx => v = .string (bs (qT b)) ∧ wx = wc)
                    case first =>
                      as_aux_lemma =>
                        cases hq : b.hasQ with
                        | true =>
                          rw [hq] at c6
                          have eq1 : bs (qT b) = bs [63] ++ bs b.query := by unfold qT; rw [if_pos hq, bs_cat]; rfl
                          have EQ1 := Lib.hid eq1
                          clear eq1 hq hW1
                          go_wp2_with fail
                          go_meet
                          exact ⟨by rw [EQ1.out]; rfl, rfl⟩
                        | false =>
                          rw [hq] at c6
                          have eq1 : bs (qT b) = ⟨#[]⟩ := by unfold qT; rw [if_neg (by rw [hq]; decide)]; rfl
                          have EQ1 := Lib.hid eq1
                          clear eq1 hq hW1
                          go_wp2_with fail
                          go_meet
                          exact ⟨by rw [EQ1.out], rfl⟩
                    case rest =>
                      as_aux_lemma =>
                        obtain ⟨rfl, rfl⟩ := hcut
                        clear c6 c4 hW1
                        have hql : (qT b).length ≤ 100001 := by
                          unfold qT
                          split
                          · simp only [List.length_cons]; omega
                          · simp
                        have zq : (bs (qT b)).size ≤ 100001 := by rw [bs_size]; exact hql
                        go_upto_region 11 with fail
                        match s, HAB2, HP2, HP1, HE, hs, zS, hz with
                        | [], HAB2, HP2, HP1, HE, hs, zS, hz =>
                          as_aux_lemma =>
                            have hfin := Lib.hid (fun W => rparse_val (originL b ++ b.path ++ qT b ++ []) W (Nat.le_trans (len_app (len_app (len_app hpl hb3) hql) hs) (by decide)))
                            have hE2 : E = .returned (.tuple #[.agg (lcs ((parseP (originL b ++ b.path ++ qT b ++ [])).getD Link.zero)).toArray, .bool (parseP (originL b ++ b.path ++ qT b ++ [])).isSome]) := by rw [HE.out, show resolveP b [] = parseP (originL b ++ b.path ++ qT b ++ []) by unfold resolveP; rw [if_neg (by rw [HAB2.out]; decide), if_neg (by rw [← HP2.out]; decide), if_neg (by rw [← HP1.out]; decide), print_bareF]]
                            obtain ⟨VR, hVR⟩ : ∃ VR, VR = (parseP (originL b ++ b.path ++ qT b ++ [])).getD Link.zero := ⟨_, rfl⟩
                            obtain ⟨BR, hBR⟩ : ∃ BR, BR = (parseP (originL b ++ b.path ++ qT b ++ [])).isSome := ⟨_, rfl⟩
                            rw [← hVR, ← hBR] at hfin hE2
                            have HE2 := Lib.hid hE2
                            clear hE2 hVR hBR
                            rw [← bs_cat, ← bs_cat, ← bs_cat] at hfin
                            have y1 : ((bs []).toList == []) = true := by rw [bs_toList]; rfl
                            have y3 : (bs []).toList = [] := bs_toList []
                            go_upto_region 12 with fail
                            have nz2 : ¬ 9223372036854775807 < (bs (originL b)).size + (bs b.path).size := by omega
                            have nz3 : ¬ 9223372036854775807 < (bs (originL b)).size + (bs b.path).size + (bs (qT b)).size := by omega
                            have nz4 : ¬ 9223372036854775807 < (bs (originL b)).size + (bs b.path).size + (bs (qT b)).size + (bs []).size := by omega
                            have c3 := Lib.hid (show wc.drew.cell? ⟨w.heap.size, 3, none⟩ = some (.string (bs b.path)) from HR.out.cell 3 _ rfl)
                            refine wp_region_noPanic ?_
                            refine wp_region_held_drew (S := (fun W => W.cell? ⟨w.heap.size, 3, none⟩ = some (.string (bs b.path)) ∧ RX w W b)) (by kernel_rfl) (by exact ⟨c3.out, HR.out.drew⟩) (fun hHeld => ?_)
                            refine wpAnyH_take (i := 0) (v := .agg (lcs b).toArray) rfl (by kernel_rfl) (by kernel_rfl) (by kernel_rfl) (fun _ _ _ h => h) (Or.inl ⟨by kernel_rfl, fun W hSw => run_loadX (w := w) (b := b) (.tmp 2) rfl (by rfl) hSw.2⟩) (by assumption) ?_
                            try simp only [Act.put]
                            refine wpAnyH_take (i := 2) (v := ?v1) rfl (by kernel_rfl) (by kernel_rfl) (by kernel_rfl) (fun _ _ _ h => h) (Or.inl ⟨by kernel_rfl, ?y1⟩) (by assumption) ?t1
                            case y1 => (intro w hSw; (try dsimp only at hSw); go_simp; try with_reducible rfl)
                            try simp only [Act.put]
                            refine wpAnyH_take (i := 3) (v := ?v2) rfl (by kernel_rfl) (by kernel_rfl) (by kernel_rfl) (fun _ _ _ h => h) (Or.inl ⟨by kernel_rfl, ?y2⟩) (by assumption) ?t2
                            case y2 => (intro w hSw; (try dsimp only at hSw); go_simp; try with_reducible rfl)
                            try simp only [Act.put]
                            refine wpAnyH_take (i := 5) (v := ?v3) rfl (by kernel_rfl) (by kernel_rfl) (by kernel_rfl) (fun _ _ _ h => h) (Or.inl ⟨by kernel_rfl, ?y3⟩) (by assumption) ?t3
                            case y3 => (intro w hSw; (try dsimp only at hSw); go_simp; try with_reducible rfl)
                            try simp only [Act.put]
                            refine wpAnyH_take (i := 7) (v := ?v4) rfl (by kernel_rfl) (by kernel_rfl) (by kernel_rfl) (fun _ _ _ h => h) (Or.inl ⟨by kernel_rfl, ?y4⟩) (by assumption) ?t4
                            case y4 => (intro w hSw; (try dsimp only at hSw); go_simp; try with_reducible rfl)
                            try simp only [Act.put]
                            refine wpAnyH_ready (rs := [1]) (by kernel_rfl) (by simp) ?_
                            refine AllReadyH.cons rfl (fun KX hKX => ?_) AllReadyH.nil
                            go_simp
                            (obtain ⟨k0, kL⟩ := hHeld; refine (horg.out _).mono ?_; rintro e w3 ⟨rfl, hb9⟩)
                            refine hKX.out _ _ (by exact ⟨(kL.call hb9).cell 3 _ rfl, kL.call hb9⟩) (fun hHeld => ?_)
                            clear hKX KX
                            try simp only [Act.put]
                            refine wpAnyH_take (i := 4) (v := ?v5) rfl (by kernel_rfl) (by kernel_rfl) (by kernel_rfl) (fun _ _ _ h => h) (Or.inl ⟨by kernel_rfl, ?y5⟩) (by assumption) ?t5
                            case y5 => (intro w hSw; (try dsimp only at hSw); go_simp; try with_reducible rfl)
                            try simp only [Act.put]
                            refine wpAnyH_take (i := 6) (v := ?v6) rfl (by kernel_rfl) (by kernel_rfl) (by kernel_rfl) (fun _ _ _ h => h) (Or.inl ⟨by kernel_rfl, ?y6⟩) (by assumption) ?t6
                            case y6 => (intro w hSw; (try dsimp only at hSw); go_simp; try with_reducible rfl)
                            try simp only [Act.put]
                            refine wpAnyH_take (i := 8) (v := ?v7) rfl (by kernel_rfl) (by kernel_rfl) (by kernel_rfl) (fun _ _ _ h => h) (Or.inl ⟨by kernel_rfl, ?y7⟩) (by assumption) ?t7
                            case y7 => (intro w hSw; (try dsimp only at hSw); go_simp; try with_reducible rfl)
                            try simp only [Act.put]
                            refine wpAnyH_ready (rs := [9]) (by kernel_rfl) (by simp) ?_
                            refine AllReadyH.cons rfl (fun KX hKX => ?_) AllReadyH.nil
                            go_simp
                            (obtain ⟨k0, kL⟩ := hHeld; refine (hfin.out _).mono ?_; rintro e w2 ⟨rfl, hb9⟩)
                            refine hKX.out _ _ (by exact ⟨(kL.call hb9).cell 3 _ rfl, kL.call hb9⟩) (fun hHeld => ?_)
                            clear hKX KX
                            try simp only [Act.put]
                            refine wpAnyH_take (i := 10) (v := ?v8) rfl (by kernel_rfl) (by kernel_rfl) (by kernel_rfl) (fun _ _ _ h => h) (Or.inl ⟨by kernel_rfl, ?y8⟩) (by assumption) ?t8
                            case y8 => (intro w hSw; (try dsimp only at hSw); go_simp; try with_reducible rfl)
                            try simp only [Act.put]
                            refine wpAnyH_take (i := 11) (v := ?v9) rfl (by kernel_rfl) (by kernel_rfl) (by kernel_rfl) (fun _ _ _ h => h) (Or.inl ⟨by kernel_rfl, ?y9⟩) (by assumption) ?t9
                            case y9 => (intro w hSw; (try dsimp only at hSw); go_simp; try with_reducible rfl)
                            try simp only [Act.put]
                            refine wpAnyH_ready (rs := [12]) (by kernel_rfl) (by simp) ?_
                            refine AllReadyH.cons rfl (fun KX hKX => ?_) AllReadyH.nil
                            rw [if_pos (by kernel_rfl)]
                            refine wp_storeX (w := w) (b := b) (.tmp 4) (.tmp 98) rfl VR (by rfl) (by rfl) hHeld.2 ?_
                            intro W9 hb9 hr9
                            refine hKX.out _ _ (by exact ⟨hr9.cell 3 _ rfl, hr9⟩) (fun hHeld => ?_)
                            clear hKX KX
                            try simp only [Act.put]
                            refine wpAnyH_take (i := 13) (v := ?v10) rfl (by kernel_rfl) (by kernel_rfl) (by kernel_rfl) (fun _ _ _ h => h) (Or.inl ⟨by kernel_rfl, ?y10⟩) (by assumption) ?t10
                            case y10 => (intro w hSw; (try dsimp only at hSw); go_simp; try with_reducible rfl)
                            try simp only [Act.put]
                            refine wpAnyH_done (by kernel_rfl) ?_ _
                            refine NoPanic.normal ?_
                            try simp only [Act.put, List.getElem_toArray, List.getElem_cons_succ, List.getElem_cons_zero, List.setIfInBounds_toArray, List.set_cons_zero, List.set_cons_succ]
                            go_wp2_with fail
                            refine bodyPost_ret (v := _) (results_link Tryz.results18 _ _ (w.heap.size + 1) _ rfl hb9 rfl) rfl ?_
                            exact ⟨HE2.out.symm, hr9.bel⟩
                        | c :: r, HAB2, HP2, HP1, HE, hs, zS, hz =>
                          as_aux_lemma =>
                            have hx : ∀ W, (Instr.index 9 (.string (bs (c :: r))) (.int .i64 0)).run Tryz.prog W = .ok (.int .u8 ((c.toNat : Nat) : Int)) W := fun W => str_byte (c :: r) 0 (by simp) W
                            have m1 : (((c.toNat : Nat) : Int) == 35) = (c == 35) := u8_beq c 35 35 rfl
                            have m2 : (((c.toNat : Nat) : Int) == 63) = (c == 63) := u8_beq c 63 63 rfl
                            have y1 : ((bs (c :: r)).toList == []) = false := by rw [bs_toList]; rfl
                            have y3 : (bs (c :: r)).toList.isEmpty = false := by rw [bs_toList]; rfl
                            cases h35 : (c == 35) with
                            | true =>
                              rw [h35] at m1
                              have hc35 : c = 35 := beq_iff_eq.1 h35
                              have hfin := Lib.hid (fun W => rparse_val (originL b ++ b.path ++ qT b ++ (c :: r)) W (Nat.le_trans (len_app (len_app (len_app hpl hb3) hql) hs) (by decide)))
                              have hE2 : E = .returned (.tuple #[.agg (lcs ((parseP (originL b ++ b.path ++ qT b ++ (c :: r))).getD Link.zero)).toArray, .bool (parseP (originL b ++ b.path ++ qT b ++ (c :: r))).isSome]) := by rw [HE.out, show resolveP b (c :: r) = parseP (originL b ++ b.path ++ qT b ++ (c :: r)) by unfold resolveP; rw [if_neg (by rw [HAB2.out]; decide), if_neg (by rw [← HP2.out]; decide), if_neg (by rw [← HP1.out]; decide)]; dsimp only; rw [if_pos hc35, print_bareF]]
                              obtain ⟨VR, hVR⟩ : ∃ VR, VR = (parseP (originL b ++ b.path ++ qT b ++ (c :: r))).getD Link.zero := ⟨_, rfl⟩
                              obtain ⟨BR, hBR⟩ : ∃ BR, BR = (parseP (originL b ++ b.path ++ qT b ++ (c :: r))).isSome := ⟨_, rfl⟩
                              rw [← hVR, ← hBR] at hfin hE2
                              have HE2 := Lib.hid hE2
                              clear hE2 hVR hBR
                              rw [← bs_cat, ← bs_cat, ← bs_cat] at hfin
                              clear hc35 h35 hz
                              generalize bs (c :: r) = S at *
                              go_upto_region 12 with fail
                              have nz2 : ¬ 9223372036854775807 < (bs (originL b)).size + (bs b.path).size := by omega
                              have nz3 : ¬ 9223372036854775807 < (bs (originL b)).size + (bs b.path).size + (bs (qT b)).size := by omega
                              have nz4 : ¬ 9223372036854775807 < (bs (originL b)).size + (bs b.path).size + (bs (qT b)).size + S.size := by omega
                              have c3 := Lib.hid (show wc.drew.cell? ⟨w.heap.size, 3, none⟩ = some (.string (bs b.path)) from HR.out.cell 3 _ rfl)
                              refine wp_region_noPanic ?_
                              refine wp_region_held_drew (S := (fun W => W.cell? ⟨w.heap.size, 3, none⟩ = some (.string (bs b.path)) ∧ RX w W b)) (by kernel_rfl) (by exact ⟨c3.out, HR.out.drew⟩) (fun hHeld => ?_)
                              refine wpAnyH_take (i := 0) (v := .agg (lcs b).toArray) rfl (by kernel_rfl) (by kernel_rfl) (by kernel_rfl) (fun _ _ _ h => h) (Or.inl ⟨by kernel_rfl, fun W hSw => run_loadX (w := w) (b := b) (.tmp 2) rfl (by rfl) hSw.2⟩) (by assumption) ?_
                              try simp only [Act.put]
                              refine wpAnyH_take (i := 2) (v := ?v11) rfl (by kernel_rfl) (by kernel_rfl) (by kernel_rfl) (fun _ _ _ h => h) (Or.inl ⟨by kernel_rfl, ?y11⟩) (by assumption) ?t11
                              case y11 => (intro w hSw; (try dsimp only at hSw); go_simp; try with_reducible rfl)
                              try simp only [Act.put]
                              refine wpAnyH_take (i := 3) (v := ?v12) rfl (by kernel_rfl) (by kernel_rfl) (by kernel_rfl) (fun _ _ _ h => h) (Or.inl ⟨by kernel_rfl, ?y12⟩) (by assumption) ?t12
                              case y12 => (intro w hSw; (try dsimp only at hSw); go_simp; try with_reducible rfl)
                              try simp only [Act.put]
                              refine wpAnyH_take (i := 5) (v := ?v13) rfl (by kernel_rfl) (by kernel_rfl) (by kernel_rfl) (fun _ _ _ h => h) (Or.inl ⟨by kernel_rfl, ?y13⟩) (by assumption) ?t13
                              case y13 => (intro w hSw; (try dsimp only at hSw); go_simp; try with_reducible rfl)
                              try simp only [Act.put]
                              refine wpAnyH_take (i := 7) (v := ?v14) rfl (by kernel_rfl) (by kernel_rfl) (by kernel_rfl) (fun _ _ _ h => h) (Or.inl ⟨by kernel_rfl, ?y14⟩) (by assumption) ?t14
                              case y14 => (intro w hSw; (try dsimp only at hSw); go_simp; try with_reducible rfl)
                              try simp only [Act.put]
                              refine wpAnyH_ready (rs := [1]) (by kernel_rfl) (by simp) ?_
                              refine AllReadyH.cons rfl (fun KX hKX => ?_) AllReadyH.nil
                              go_simp
                              (obtain ⟨k0, kL⟩ := hHeld; refine (horg.out _).mono ?_; rintro e w3 ⟨rfl, hb9⟩)
                              refine hKX.out _ _ (by exact ⟨(kL.call hb9).cell 3 _ rfl, kL.call hb9⟩) (fun hHeld => ?_)
                              clear hKX KX
                              try simp only [Act.put]
                              refine wpAnyH_take (i := 4) (v := ?v15) rfl (by kernel_rfl) (by kernel_rfl) (by kernel_rfl) (fun _ _ _ h => h) (Or.inl ⟨by kernel_rfl, ?y15⟩) (by assumption) ?t15
                              case y15 => (intro w hSw; (try dsimp only at hSw); go_simp; try with_reducible rfl)
                              try simp only [Act.put]
                              refine wpAnyH_take (i := 6) (v := ?v16) rfl (by kernel_rfl) (by kernel_rfl) (by kernel_rfl) (fun _ _ _ h => h) (Or.inl ⟨by kernel_rfl, ?y16⟩) (by assumption) ?t16
                              case y16 => (intro w hSw; (try dsimp only at hSw); go_simp; try with_reducible rfl)
                              try simp only [Act.put]
                              refine wpAnyH_take (i := 8) (v := ?v17) rfl (by kernel_rfl) (by kernel_rfl) (by kernel_rfl) (fun _ _ _ h => h) (Or.inl ⟨by kernel_rfl, ?y17⟩) (by assumption) ?t17
                              case y17 => (intro w hSw; (try dsimp only at hSw); go_simp; try with_reducible rfl)
                              try simp only [Act.put]
                              refine wpAnyH_ready (rs := [9]) (by kernel_rfl) (by simp) ?_
                              refine AllReadyH.cons rfl (fun KX hKX => ?_) AllReadyH.nil
                              go_simp
                              (obtain ⟨k0, kL⟩ := hHeld; refine (hfin.out _).mono ?_; rintro e w2 ⟨rfl, hb9⟩)
                              refine hKX.out _ _ (by exact ⟨(kL.call hb9).cell 3 _ rfl, kL.call hb9⟩) (fun hHeld => ?_)
                              clear hKX KX
                              try simp only [Act.put]
                              refine wpAnyH_take (i := 10) (v := ?v18) rfl (by kernel_rfl) (by kernel_rfl) (by kernel_rfl) (fun _ _ _ h => h) (Or.inl ⟨by kernel_rfl, ?y18⟩) (by assumption) ?t18
                              case y18 => (intro w hSw; (try dsimp only at hSw); go_simp; try with_reducible rfl)
                              try simp only [Act.put]
                              refine wpAnyH_take (i := 11) (v := ?v19) rfl (by kernel_rfl) (by kernel_rfl) (by kernel_rfl) (fun _ _ _ h => h) (Or.inl ⟨by kernel_rfl, ?y19⟩) (by assumption) ?t19
                              case y19 => (intro w hSw; (try dsimp only at hSw); go_simp; try with_reducible rfl)
                              try simp only [Act.put]
                              refine wpAnyH_ready (rs := [12]) (by kernel_rfl) (by simp) ?_
                              refine AllReadyH.cons rfl (fun KX hKX => ?_) AllReadyH.nil
                              rw [if_pos (by kernel_rfl)]
                              refine wp_storeX (w := w) (b := b) (.tmp 4) (.tmp 98) rfl VR (by rfl) (by rfl) hHeld.2 ?_
                              intro W9 hb9 hr9
                              refine hKX.out _ _ (by exact ⟨hr9.cell 3 _ rfl, hr9⟩) (fun hHeld => ?_)
                              clear hKX KX
                              try simp only [Act.put]
                              refine wpAnyH_take (i := 13) (v := ?v20) rfl (by kernel_rfl) (by kernel_rfl) (by kernel_rfl) (fun _ _ _ h => h) (Or.inl ⟨by kernel_rfl, ?y20⟩) (by assumption) ?t20
                              case y20 => (intro w hSw; (try dsimp only at hSw); go_simp; try with_reducible rfl)
                              try simp only [Act.put]
                              refine wpAnyH_done (by kernel_rfl) ?_ _
                              refine NoPanic.normal ?_
                              try simp only [Act.put, List.getElem_toArray, List.getElem_cons_succ, List.getElem_cons_zero, List.setIfInBounds_toArray, List.set_cons_zero, List.set_cons_succ]
                              go_wp2_with fail
                              refine bodyPost_ret (v := _) (results_link Tryz.results18 _ _ (w.heap.size + 1) _ rfl hb9 rfl) rfl ?_
                              exact ⟨HE2.out.symm, hr9.bel⟩
                            | false =>
                              cases h63 : (c == 63) with
                              | true =>
                                rw [h35] at m1
                                rw [h63] at m2
                                have hc63 : c = 63 := beq_iff_eq.1 h63
                                have hc35 : c ≠ 35 := by rw [hc63]; decide
                                have hfin := Lib.hid (fun W => rparse_val (originL b ++ b.path ++ (c :: r)) W (Nat.le_trans (len_app (len_app hpl hb3) hs) (by decide)))
                                have hE2 : E = .returned (.tuple #[.agg (lcs ((parseP (originL b ++ b.path ++ (c :: r))).getD Link.zero)).toArray, .bool (parseP (originL b ++ b.path ++ (c :: r))).isSome]) := by rw [HE.out, show resolveP b (c :: r) = parseP (originL b ++ b.path ++ (c :: r)) by unfold resolveP; rw [if_neg (by rw [HAB2.out]; decide), if_neg (by rw [← HP2.out]; decide), if_neg (by rw [← HP1.out]; decide)]; dsimp only; rw [if_neg hc35, if_pos hc63, print_bareQ]]
                                obtain ⟨VR, hVR⟩ : ∃ VR, VR = (parseP (originL b ++ b.path ++ (c :: r))).getD Link.zero := ⟨_, rfl⟩
                                obtain ⟨BR, hBR⟩ : ∃ BR, BR = (parseP (originL b ++ b.path ++ (c :: r))).isSome := ⟨_, rfl⟩
                                rw [← hVR, ← hBR] at hfin hE2
                                have HE2 := Lib.hid hE2
                                clear hE2 hVR hBR
                                rw [← bs_cat, ← bs_cat] at hfin
                                clear hc35 h35 hc63 h63 hz
                                generalize bs (c :: r) = S at *
                                go_upto_region 14 with fail
                                have nz2 : ¬ 9223372036854775807 < (bs (originL b)).size + (bs b.path).size := by omega
                                have nz3 : ¬ 9223372036854775807 < (bs (originL b)).size + (bs b.path).size + S.size := by omega
                                have c3 := Lib.hid (show wc.drew.cell? ⟨w.heap.size, 3, none⟩ = some (.string (bs b.path)) from HR.out.cell 3 _ rfl)
                                refine wp_region_noPanic ?_
                                refine wp_region_held_drew (S := (fun W => W.cell? ⟨w.heap.size, 3, none⟩ = some (.string (bs b.path)) ∧ RX w W b)) (by kernel_rfl) (by exact ⟨c3.out, HR.out.drew⟩) (fun hHeld => ?_)
                                refine wpAnyH_take (i := 0) (v := .agg (lcs b).toArray) rfl (by kernel_rfl) (by kernel_rfl) (by kernel_rfl) (fun _ _ _ h => h) (Or.inl ⟨by kernel_rfl, fun W hSw => run_loadX (w := w) (b := b) (.tmp 2) rfl (by rfl) hSw.2⟩) (by assumption) ?_
                                try simp only [Act.put]
                                refine wpAnyH_take (i := 2) (v := ?v21) rfl (by kernel_rfl) (by kernel_rfl) (by kernel_rfl) (fun _ _ _ h => h) (Or.inl ⟨by kernel_rfl, ?y21⟩) (by assumption) ?t21
                                case y21 => (intro w hSw; (try dsimp only at hSw); go_simp; try with_reducible rfl)
                                try simp only [Act.put]
                                refine wpAnyH_take (i := 3) (v := ?v22) rfl (by kernel_rfl) (by kernel_rfl) (by kernel_rfl) (fun _ _ _ h => h) (Or.inl ⟨by kernel_rfl, ?y22⟩) (by assumption) ?t22
                                case y22 => (intro w hSw; (try dsimp only at hSw); go_simp; try with_reducible rfl)
                                try simp only [Act.put]
                                refine wpAnyH_take (i := 5) (v := ?v23) rfl (by kernel_rfl) (by kernel_rfl) (by kernel_rfl) (fun _ _ _ h => h) (Or.inl ⟨by kernel_rfl, ?y23⟩) (by assumption) ?t23
                                case y23 => (intro w hSw; (try dsimp only at hSw); go_simp; try with_reducible rfl)
                                try simp only [Act.put]
                                refine wpAnyH_ready (rs := [1]) (by kernel_rfl) (by simp) ?_
                                refine AllReadyH.cons rfl (fun KX hKX => ?_) AllReadyH.nil
                                go_simp
                                (obtain ⟨k0, kL⟩ := hHeld; refine (horg.out _).mono ?_; rintro e w3 ⟨rfl, hb9⟩)
                                refine hKX.out _ _ (by exact ⟨(kL.call hb9).cell 3 _ rfl, kL.call hb9⟩) (fun hHeld => ?_)
                                clear hKX KX
                                try simp only [Act.put]
                                refine wpAnyH_take (i := 4) (v := ?v24) rfl (by kernel_rfl) (by kernel_rfl) (by kernel_rfl) (fun _ _ _ h => h) (Or.inl ⟨by kernel_rfl, ?y24⟩) (by assumption) ?t24
                                case y24 => (intro w hSw; (try dsimp only at hSw); go_simp; try with_reducible rfl)
                                try simp only [Act.put]
                                refine wpAnyH_take (i := 6) (v := ?v25) rfl (by kernel_rfl) (by kernel_rfl) (by kernel_rfl) (fun _ _ _ h => h) (Or.inl ⟨by kernel_rfl, ?y25⟩) (by assumption) ?t25
                                case y25 => (intro w hSw; (try dsimp only at hSw); go_simp; try with_reducible rfl)
                                try simp only [Act.put]
                                refine wpAnyH_ready (rs := [7]) (by kernel_rfl) (by simp) ?_
                                refine AllReadyH.cons rfl (fun KX hKX => ?_) AllReadyH.nil
                                go_simp
                                (obtain ⟨k0, kL⟩ := hHeld; refine (hfin.out _).mono ?_; rintro e w2 ⟨rfl, hb9⟩)
                                refine hKX.out _ _ (by exact ⟨(kL.call hb9).cell 3 _ rfl, kL.call hb9⟩) (fun hHeld => ?_)
                                clear hKX KX
                                try simp only [Act.put]
                                refine wpAnyH_take (i := 8) (v := ?v26) rfl (by kernel_rfl) (by kernel_rfl) (by kernel_rfl) (fun _ _ _ h => h) (Or.inl ⟨by kernel_rfl, ?y26⟩) (by assumption) ?t26
                                case y26 => (intro w hSw; (try dsimp only at hSw); go_simp; try with_reducible rfl)
                                try simp only [Act.put]
                                refine wpAnyH_take (i := 9) (v := ?v27) rfl (by kernel_rfl) (by kernel_rfl) (by kernel_rfl) (fun _ _ _ h => h) (Or.inl ⟨by kernel_rfl, ?y27⟩) (by assumption) ?t27
                                case y27 => (intro w hSw; (try dsimp only at hSw); go_simp; try with_reducible rfl)
                                try simp only [Act.put]
                                refine wpAnyH_ready (rs := [10]) (by kernel_rfl) (by simp) ?_
                                refine AllReadyH.cons rfl (fun KX hKX => ?_) AllReadyH.nil
                                rw [if_pos (by kernel_rfl)]
                                refine wp_storeX (w := w) (b := b) (.tmp 4) (.tmp 111) rfl VR (by rfl) (by rfl) hHeld.2 ?_
                                intro W9 hb9 hr9
                                refine hKX.out _ _ (by exact ⟨hr9.cell 3 _ rfl, hr9⟩) (fun hHeld => ?_)
                                clear hKX KX
                                try simp only [Act.put]
                                refine wpAnyH_take (i := 11) (v := ?v28) rfl (by kernel_rfl) (by kernel_rfl) (by kernel_rfl) (fun _ _ _ h => h) (Or.inl ⟨by kernel_rfl, ?y28⟩) (by assumption) ?t28
                                case y28 => (intro w hSw; (try dsimp only at hSw); go_simp; try with_reducible rfl)
                                try simp only [Act.put]
                                refine wpAnyH_done (by kernel_rfl) ?_ _
                                refine NoPanic.normal ?_
                                try simp only [Act.put, List.getElem_toArray, List.getElem_cons_succ, List.getElem_cons_zero, List.setIfInBounds_toArray, List.set_cons_zero, List.set_cons_succ]
                                go_wp2_with fail
                                refine bodyPost_ret (v := _) (results_link Tryz.results18 _ _ (w.heap.size + 1) _ rfl hb9 rfl) rfl ?_
                                exact ⟨HE2.out.symm, hr9.bel⟩
                              | false =>
                                rw [h35] at m1
                                rw [h63] at m2
                                have hc63 : c ≠ 63 := by rintro rfl; cases h63
                                have hc35 : c ≠ 35 := by rintro rfl; cases h35
                                have hrr : resolveP b (c :: r) = dottedP (originL b ++ (if upTo b.path = [] then [47] else upTo b.path) ++ (c :: r)) := by unfold resolveP; rw [if_neg (by rw [HAB2.out]; decide), if_neg (by rw [← HP2.out]; decide), if_neg (by rw [← HP1.out]; decide)]; dsimp only; rw [if_neg hc35, if_neg hc63, print_base]
                                have HRR := Lib.hid hrr
                                clear hrr hc35 h35 hc63 h63 hz
                                have c3 := HR.out.cell 3 (.string (bs b.path)) rfl
                                have HX := Lib.hid (fun (i : Nat) (h : i < b.path.length) (W : World) => str_byte b.path i h W)
                                have hzp : (bs b.path).size = b.path.length := bs_size b.path
                                go_wp2_with fail
                                go_loop [8, 9] (fun m i => ∃ j : Nat, i = .int .i64 (j : Int) ∧ j ≤ b.path.length ∧ m = .int .i64 (((upTo (b.path.take j)).length : Nat) : Int)) (fun _ i => b.path.length - (intOf i).toNat)
                                case atStart => exact ⟨0, rfl, Nat.zero_le _, rfl⟩
                                case round =>
                                  as_aux_lemma =>
                                    obtain ⟨j, rfl, hj, rfl⟩ := hrel
                                    by_cases hjn : j < b.path.length
                                    · have tj : decide ((j : Int) < (b.path.length : Int)) = true := by rw [decide_eq_true_eq]; omega
                                      have hxj := fun W => HX.out j hjn W
                                      have hup : upTo (b.path.take (j + 1)) = if b.path.getD j 0 = 47 then b.path.take j ++ [b.path.getD j 0] else upTo (b.path.take j) := by
                                        have e : b.path.getD j 0 = b.path[j] := by simp [hjn]
                                        rw [e, List.take_succ_eq_append_getElem hjn, upTo_snoc]
                                      have hlj : (b.path.take j).length = j := by rw [List.length_take]; omega
                                      obtain ⟨d, hd⟩ : ∃ d, d = b.path.getD j 0 := ⟨_, rfl⟩
                                      rw [← hd] at hup
                                      simp only [← hd] at hxj
                                      have q1 : (((d.toNat : Nat) : Int) == 47) = (d == 47) := u8_beq d 47 47 rfl
                                      clear hd
                                      cases h47 : (d == 47) with
                                      | true =>
                                        rw [h47] at q1
                                        have hu2 : (upTo (b.path.take (j + 1))).length = j + 1 := by
                                          rw [hup, if_pos (beq_iff_eq.1 h47), List.length_append, hlj]; rfl
                                        have HU := Lib.hid hu2
                                        clear hup hlj h47 hu2
                                        go_wp2_with fail
                                        exact ⟨⟨j + 1, by go_num, by omega, by rw [HU.out]; go_num⟩, by simp [intOf]; omega⟩
                                      | false =>
                                        rw [h47] at q1
                                        have hu2 : upTo (b.path.take (j + 1)) = upTo (b.path.take j) := by
                                          rw [hup, if_neg (by rintro rfl; cases h47)]
                                        have HU := Lib.hid hu2
                                        clear hup hlj h47 hu2
                                        go_wp2_with fail
                                        exact ⟨⟨j + 1, by go_num, by omega, by rw [HU.out]⟩, by simp [intOf]; omega⟩
                                    · obtain rfl : j = b.path.length := by omega
                                      have tj : decide ((b.path.length : Int) < (b.path.length : Int)) = false := by rw [decide_eq_false_iff_not]; omega
                                      rw [List.take_length]
                                      have hul := upTo_len b.path
                                      have hut := upTo_take b.path
                                      by_cases hup : upTo b.path = []
                                      · have hr2 := HRR.out
                                        rw [if_pos hup] at hr2
                                        have t1 : ((((upTo b.path).length : Nat) : Int) == 0) = true := by rw [hup]; rfl
                                        have HR2 := Lib.hid hr2
                                        clear hr2 HRR hut
                                        generalize (upTo b.path).length = m at *
                                        have hfin := Lib.hid (fun W => rdotted_any (originL b ++ [47] ++ (c :: r)) W (Nat.le_trans (len_app (len_app hpl (Nat.le_refl _)) hs) (by decide)))
                                        have hE2 : E = .returned (.tuple #[.agg (lcs ((dottedP (originL b ++ [47] ++ (c :: r))).getD Link.zero)).toArray, .bool (dottedP (originL b ++ [47] ++ (c :: r))).isSome]) := by rw [HE.out, HR2.out]
                                        obtain ⟨VR, hVR⟩ : ∃ VR, VR = (dottedP (originL b ++ [47] ++ (c :: r))).getD Link.zero := ⟨_, rfl⟩
                                        obtain ⟨BR, hBR⟩ : ∃ BR, BR = (dottedP (originL b ++ [47] ++ (c :: r))).isSome := ⟨_, rfl⟩
                                        rw [← hVR, ← hBR] at hfin hE2
                                        have HE2 := Lib.hid hE2
                                        clear hE2 hVR hBR
                                        rw [← bs_cat, ← bs_cat] at hfin
                                        clear hup HR2 hul
                                        go_wp2_with (first | ((with_reducible refine atD 129 ?_); refine wpList_loadL rfl (.tmp 2) rfl w.heap.size (by rfl) (lcs b) HR.out.blk rfl ?_) | (go_at_call 57; refine (horg.out _).mono ?_; rintro e w3 ⟨rfl, hb1⟩; have HY := Lib.hid (HR.out.call hb1); clear hb1) | (go_at_call 56; refine (hfin.out _).mono ?_; rintro e w2 ⟨rfl, hb1⟩; have HZ := Lib.hid (HY.out.call hb1); clear hb1) | ((with_reducible refine atS 4 135 ?_); refine wpList_storeX rfl (.tmp 4) (.tmp 135) rfl VR (by rfl) (by rfl) HZ.out ?_; intro W9 hb9 hr9))
                                        refine bodyPost_ret (v := _) (results_link Tryz.results18 _ _ (w.heap.size + 1) _ rfl hb9 rfl) rfl ?_
                                        exact ⟨HE2.out.symm, hr9.bel⟩
                                      · have hr2 := HRR.out
                                        rw [if_neg hup] at hr2
                                        have hm : (upTo b.path).length ≠ 0 := fun h => hup (List.eq_nil_of_length_eq_zero h)
                                        have t1 : ((((upTo b.path).length : Nat) : Int) == 0) = false := by rw [beq_eq_false_iff_ne]; omega
                                        have hto : ∀ W, (Instr.slice 9 (.string (bs b.path)) none (some (.int .i64 (((upTo b.path).length : Nat) : Int))) none).run Tryz.prog W = .ok (.string (bs (upTo b.path))) W := fun W => by
                                          have := str_to b.path (upTo b.path).length hul W
                                          rwa [hut] at this
                                        have zu : (bs (upTo b.path)).size ≤ 100000 := by rw [bs_size]; omega
                                        have HR2 := Lib.hid hr2
                                        clear hr2 HRR hut hup hm
                                        have hfin := Lib.hid (fun W => rdotted_any (originL b ++ upTo b.path ++ (c :: r)) W (Nat.le_trans (len_app (len_app hpl (Nat.le_trans hul hb3)) hs) (by decide)))
                                        have hE2 : E = .returned (.tuple #[.agg (lcs ((dottedP (originL b ++ upTo b.path ++ (c :: r))).getD Link.zero)).toArray, .bool (dottedP (originL b ++ upTo b.path ++ (c :: r))).isSome]) := by rw [HE.out, HR2.out]
                                        obtain ⟨VR, hVR⟩ : ∃ VR, VR = (dottedP (originL b ++ upTo b.path ++ (c :: r))).getD Link.zero := ⟨_, rfl⟩
                                        obtain ⟨BR, hBR⟩ : ∃ BR, BR = (dottedP (originL b ++ upTo b.path ++ (c :: r))).isSome := ⟨_, rfl⟩
                                        rw [← hVR, ← hBR] at hfin hE2
                                        have HE2 := Lib.hid hE2
                                        clear hE2 hVR hBR
                                        rw [← bs_cat, ← bs_cat] at hfin
                                        have nz2 : ¬ 9223372036854775807 < (bs (originL b)).size + (bs (upTo b.path)).size := by omega
                                        have nz3 : ¬ 9223372036854775807 < (bs (originL b)).size + (bs (upTo b.path)).size + (bs (c :: r)).size := by omega
                                        generalize bs (c :: r) = S at *
                                        obtain ⟨m, hm⟩ : ∃ m, m = (upTo b.path).length := ⟨_, rfl⟩
                                        rw [← hm] at t1 hul
                                        simp only [← hm] at hto
                                        rw [← hm]
                                        generalize bs (upTo b.path) = SU at *
                                        clear HR2 hm
                                        go_upto_region 23 with fail
                                        clear c3
                                        have c3 := Lib.hid (show wc.drew.cell? ⟨w.heap.size, 3, none⟩ = some (.string (bs b.path)) from HR.out.cell 3 _ rfl)
                                        refine wp_region_noPanic ?_
                                        refine wp_region_held_drew (S := (fun W => W.cell? ⟨w.heap.size, 3, none⟩ = some (.string (bs b.path)) ∧ RX w W b)) (by kernel_rfl) (by exact ⟨c3.out, HR.out.drew⟩) (fun hHeld => ?_)
                                        refine wpAnyH_take (i := 0) (v := .agg (lcs b).toArray) rfl (by kernel_rfl) (by kernel_rfl) (by kernel_rfl) (fun _ _ _ h => h) (Or.inl ⟨by kernel_rfl, fun W hSw => run_loadX (w := w) (b := b) (.tmp 2) rfl (by rfl) hSw.2⟩) (by assumption) ?_
                                        try simp only [Act.put]
                                        refine wpAnyH_take (i := 2) (v := ?v29) rfl (by kernel_rfl) (by kernel_rfl) (by kernel_rfl) (fun _ _ _ h => h) (Or.inl ⟨by kernel_rfl, ?y29⟩) (by assumption) ?t29
                                        case y29 => (intro w hSw; (try dsimp only at hSw); go_simp; try with_reducible rfl)
                                        try simp only [Act.put]
                                        refine wpAnyH_take (i := 3) (v := ?v30) rfl (by kernel_rfl) (by kernel_rfl) (by kernel_rfl) (fun _ _ _ h => h) (Or.inl ⟨by kernel_rfl, ?y30⟩) (by assumption) ?t30
                                        case y30 => (intro w hSw; (try dsimp only at hSw); go_simp; try with_reducible rfl)
                                        try simp only [Act.put]
                                        refine wpAnyH_take (i := 4) (v := ?v31) rfl (by kernel_rfl) (by kernel_rfl) (by kernel_rfl) (fun _ _ _ h => h) (Or.inl ⟨by kernel_rfl, ?y31⟩) (by assumption) ?t31
                                        case y31 => (intro w hSw; (try dsimp only at hSw); go_simp; try with_reducible rfl)
                                        try simp only [Act.put]
                                        refine wpAnyH_take (i := 5) (v := ?v32) rfl (by kernel_rfl) (by kernel_rfl) (by kernel_rfl) (fun _ _ _ h => h) (Or.inl ⟨by kernel_rfl, ?y32⟩) (by assumption) ?t32
                                        case y32 => (intro w hSw; (try dsimp only at hSw); go_simp; try with_reducible rfl)
                                        try simp only [Act.put]
                                        refine wpAnyH_take (i := 7) (v := ?v33) rfl (by kernel_rfl) (by kernel_rfl) (by kernel_rfl) (fun _ _ _ h => h) (Or.inl ⟨by kernel_rfl, ?y33⟩) (by assumption) ?t33
                                        case y33 => (intro w hSw; (try dsimp only at hSw); go_simp; try with_reducible rfl)
                                        try simp only [Act.put]
                                        refine wpAnyH_ready (rs := [1]) (by kernel_rfl) (by simp) ?_
                                        refine AllReadyH.cons rfl (fun KX hKX => ?_) AllReadyH.nil
                                        go_simp
                                        (obtain ⟨k0, kL⟩ := hHeld; refine (horg.out _).mono ?_; rintro e w3 ⟨rfl, hb9⟩)
                                        refine hKX.out _ _ (by exact ⟨(kL.call hb9).cell 3 _ rfl, kL.call hb9⟩) (fun hHeld => ?_)
                                        clear hKX KX
                                        try simp only [Act.put]
                                        refine wpAnyH_take (i := 6) (v := ?v34) rfl (by kernel_rfl) (by kernel_rfl) (by kernel_rfl) (fun _ _ _ h => h) (Or.inl ⟨by kernel_rfl, ?y34⟩) (by assumption) ?t34
                                        case y34 => (intro w hSw; (try dsimp only at hSw); go_simp; try with_reducible rfl)
                                        try simp only [Act.put]
                                        refine wpAnyH_take (i := 8) (v := ?v35) rfl (by kernel_rfl) (by kernel_rfl) (by kernel_rfl) (fun _ _ _ h => h) (Or.inl ⟨by kernel_rfl, ?y35⟩) (by assumption) ?t35
                                        case y35 => (intro w hSw; (try dsimp only at hSw); go_simp; try with_reducible rfl)
                                        try simp only [Act.put]
                                        refine wpAnyH_ready (rs := [9]) (by kernel_rfl) (by simp) ?_
                                        refine AllReadyH.cons rfl (fun KX hKX => ?_) AllReadyH.nil
                                        go_simp
                                        (obtain ⟨k0, kL⟩ := hHeld; refine (hfin.out _).mono ?_; rintro e w2 ⟨rfl, hb9⟩)
                                        refine hKX.out _ _ (by exact ⟨(kL.call hb9).cell 3 _ rfl, kL.call hb9⟩) (fun hHeld => ?_)
                                        clear hKX KX
                                        try simp only [Act.put]
                                        refine wpAnyH_take (i := 10) (v := ?v36) rfl (by kernel_rfl) (by kernel_rfl) (by kernel_rfl) (fun _ _ _ h => h) (Or.inl ⟨by kernel_rfl, ?y36⟩) (by assumption) ?t36
                                        case y36 => (intro w hSw; (try dsimp only at hSw); go_simp; try with_reducible rfl)
                                        try simp only [Act.put]
                                        refine wpAnyH_take (i := 11) (v := ?v37) rfl (by kernel_rfl) (by kernel_rfl) (by kernel_rfl) (fun _ _ _ h => h) (Or.inl ⟨by kernel_rfl, ?y37⟩) (by assumption) ?t37
                                        case y37 => (intro w hSw; (try dsimp only at hSw); go_simp; try with_reducible rfl)
                                        try simp only [Act.put]
                                        refine wpAnyH_ready (rs := [12]) (by kernel_rfl) (by simp) ?_
                                        refine AllReadyH.cons rfl (fun KX hKX => ?_) AllReadyH.nil
                                        rw [if_pos (by kernel_rfl)]
                                        refine wp_storeX (w := w) (b := b) (.tmp 4) (.tmp 147) rfl VR (by rfl) (by rfl) hHeld.2 ?_
                                        intro W9 hb9 hr9
                                        refine hKX.out _ _ (by exact ⟨hr9.cell 3 _ rfl, hr9⟩) (fun hHeld => ?_)
                                        clear hKX KX
                                        try simp only [Act.put]
                                        refine wpAnyH_take (i := 13) (v := ?v38) rfl (by kernel_rfl) (by kernel_rfl) (by kernel_rfl) (fun _ _ _ h => h) (Or.inl ⟨by kernel_rfl, ?y38⟩) (by assumption) ?t38
                                        case y38 => (intro w hSw; (try dsimp only at hSw); go_simp; try with_reducible rfl)
                                        try simp only [Act.put]
                                        refine wpAnyH_done (by kernel_rfl) ?_ _
                                        refine NoPanic.normal ?_
                                        try simp only [Act.put, List.getElem_toArray, List.getElem_cons_succ, List.getElem_cons_zero, List.setIfInBounds_toArray, List.set_cons_zero, List.set_cons_succ]
                                        go_wp2_with fail
                                        refine bodyPost_ret (v := _) (results_link Tryz.results18 _ _ (w.heap.size + 1) _ rfl hb9 rfl) rfl ?_
                                        exact ⟨HE2.out.symm, hr9.bel⟩
end Go.Proofs.YtcpkkaimingnlaaGreatDoor
