/-
  Which texts may stand in a page: the program's Safe, the document's, the law LinkSafe.
-/
import Derived.Test.YtcpkkaimingnlaaGreatDoorLlp
namespace Go.Proofs.YtcpkkaimingnlaaGreatDoor
open Go.RowKit

def safeP (s : Bs) : Bool := (parseP s).isSome || (decide (8 ≤ s.length) && decide (s.length ≤ 207) && (small (s.take 7) == bMail) && (s.drop 7).all mailB)
theorem safe_some {s : Bs} {l : Link} (h : parseP s = some l) : safeP s = true := by unfold safeP; rw [h]; rfl
theorem safe_short {s : Bs} (h : parseP s = none) (h1 : s.length < 8) : safeP s = false := by unfold safeP; rw [h, decide_eq_false (by omega)]; rfl
theorem safe_long {s : Bs} (h : parseP s = none) (h1 : 207 < s.length) : safeP s = false := by unfold safeP; rw [h, decide_eq_false (by omega : ¬ s.length ≤ 207)]; simp
theorem safe_no {s : Bs} (h : parseP s = none) (h1 : (small (s.take 7) == bMail) = false) : safeP s = false := by unfold safeP; rw [h, h1]; simp
theorem safe_mail {s : Bs} (h : parseP s = none) (h0 : 8 ≤ s.length) (h2 : s.length ≤ 207) (h1 : (small (s.take 7) == bMail) = true) : safeP s = (s.drop 7).all mailB := by unfold safeP; rw [h, h1, decide_eq_true h0, decide_eq_true h2]; simp
set_option maxHeartbeats 4000000 in
set_option maxRecDepth 100000 in
theorem psafe_some (s : Bs) (w : World) (hT : Tabs w) (hs : s.length ≤ 1000000) (X : Link) (h1 : parseP s = some X) :
    Calls Tryz.prog 23 #[.string (bs s)] w fun e w' => e = .returned (.bool (safeP s)) ∧ Below w.heap.size w w' := by
  have HT := Lib.hid hT
  clear hT
  have hz := bs_size s
  have hpa := Lib.hid (fun W (h : Below w.heap.size w W) => parse_val s W (HT.out.below h) (by omega))
  rw [h1] at hpa
  have hpa : Hid (∀ W, Below w.heap.size w W → Calls Tryz.prog 14 #[.string (bs s)] W fun e w' => e = .returned (.tuple #[.agg (lcs X).toArray, .int .i64 0]) ∧ Below W.heap.size W w') := hpa
  rw [safe_some h1]
  generalize bs s = SS at *
  clear h1
  have H0 := Lib.hid (LK.start w)
  go_enter Tryz.func23, Tryz.ntmps23
  go_wp2_with (first | (go_at_call 14; refine (hpa.out _ H0.out.bel).mono ?_; rintro e w1 ⟨rfl, hb1⟩; have HA := Lib.hid (H0.out.call hb1); clear hb1) | ((with_reducible refine atS 3 8 ?_); refine wpList_storeL rfl (.tmp 3) (.tmp 8) rfl w1.heap.size (lcs X).toArray (by rfl) (by rfl) zcs (new_zcs w1) rfl rfl rfl ?_; intro X1 hb1 ht1; have HB := Lib.hid (HA.out.box X rfl hb1 ht1); clear hb1 ht1))
  go_ret
  exact ⟨rfl, HB.out.bel⟩
set_option maxHeartbeats 4000000 in
set_option maxRecDepth 100000 in
theorem psafe_short (s : Bs) (w : World) (hT : Tabs w) (hs : s.length ≤ 1000000) (h1 : parseP s = none) (h2 : s.length < 8) :
    Calls Tryz.prog 23 #[.string (bs s)] w fun e w' => e = .returned (.bool (safeP s)) ∧ Below w.heap.size w w' := by
  have HT := Lib.hid hT
  clear hT
  have hz := bs_size s
  have hpa := Lib.hid (fun W (h : Below w.heap.size w W) => parse_val s W (HT.out.below h) (by omega))
  rw [h1] at hpa
  have hpa : Hid (∀ W, Below w.heap.size w W → Calls Tryz.prog 14 #[.string (bs s)] W fun e w' => e = .returned (.tuple #[.agg (lcs Link.zero).toArray, .int .i64 40]) ∧ Below W.heap.size W w') := hpa
  rw [safe_short h1 h2]
  have t1 : decide ((s.length : Int) ≤ 7) = true := decide_eq_true (by omega)
  clear h1 h2
  generalize bs s = SS at *
  have H0 := Lib.hid (LK.start w)
  go_enter Tryz.func23, Tryz.ntmps23
  go_wp2_with (first | (go_at_call 14; refine (hpa.out _ H0.out.bel).mono ?_; rintro e w1 ⟨rfl, hb1⟩; have HA := Lib.hid (H0.out.call hb1); clear hb1) | ((with_reducible refine atS 3 8 ?_); refine wpList_storeL rfl (.tmp 3) (.tmp 8) rfl w1.heap.size (lcs Link.zero).toArray (by rfl) (by rfl) zcs (new_zcs w1) rfl rfl rfl ?_; intro X1 hb1 ht1; have HB := Lib.hid (HA.out.box Link.zero rfl hb1 ht1); clear hb1 ht1))
  go_ret
  exact ⟨rfl, HB.out.bel⟩
set_option maxHeartbeats 4000000 in
set_option maxRecDepth 100000 in
theorem psafe_long (s : Bs) (w : World) (hT : Tabs w) (hs : s.length ≤ 1000000) (h1 : parseP s = none) (h2 : 207 < s.length) :
    Calls Tryz.prog 23 #[.string (bs s)] w fun e w' => e = .returned (.bool (safeP s)) ∧ Below w.heap.size w w' := by
  have HT := Lib.hid hT
  clear hT
  have hz := bs_size s
  have hpa := Lib.hid (fun W (h : Below w.heap.size w W) => parse_val s W (HT.out.below h) (by omega))
  rw [h1] at hpa
  have hpa : Hid (∀ W, Below w.heap.size w W → Calls Tryz.prog 14 #[.string (bs s)] W fun e w' => e = .returned (.tuple #[.agg (lcs Link.zero).toArray, .int .i64 40]) ∧ Below W.heap.size W w') := hpa
  rw [safe_long h1 h2]
  have t1 : decide ((s.length : Int) ≤ 7) = false := decide_eq_false (by omega)
  have t2 : decide ((s.length : Int) > 207) = true := decide_eq_true (by omega)
  clear h1 h2
  generalize bs s = SS at *
  have H0 := Lib.hid (LK.start w)
  go_enter Tryz.func23, Tryz.ntmps23
  go_wp2_with (first | (go_at_call 14; refine (hpa.out _ H0.out.bel).mono ?_; rintro e w1 ⟨rfl, hb1⟩; have HA := Lib.hid (H0.out.call hb1); clear hb1) | ((with_reducible refine atS 3 8 ?_); refine wpList_storeL rfl (.tmp 3) (.tmp 8) rfl w1.heap.size (lcs Link.zero).toArray (by rfl) (by rfl) zcs (new_zcs w1) rfl rfl rfl ?_; intro X1 hb1 ht1; have HB := Lib.hid (HA.out.box Link.zero rfl hb1 ht1); clear hb1 ht1))
  go_ret
  exact ⟨rfl, HB.out.bel⟩
set_option maxHeartbeats 4000000 in
set_option maxRecDepth 100000 in
theorem psafe_no (s : Bs) (w : World) (hT : Tabs w) (hs : s.length ≤ 1000000) (h1 : parseP s = none) (h2 : 8 ≤ s.length) (h3 : s.length ≤ 207) (h4 : (small (s.take 7) == bMail) = false) :
    Calls Tryz.prog 23 #[.string (bs s)] w fun e w' => e = .returned (.bool (safeP s)) ∧ Below w.heap.size w w' := by
  have HT := Lib.hid hT
  clear hT
  have hz := bs_size s
  have hpa := Lib.hid (fun W (h : Below w.heap.size w W) => parse_val s W (HT.out.below h) (by omega))
  rw [h1] at hpa
  have hpa : Hid (∀ W, Below w.heap.size w W → Calls Tryz.prog 14 #[.string (bs s)] W fun e w' => e = .returned (.tuple #[.agg (lcs Link.zero).toArray, .int .i64 40]) ∧ Below W.heap.size W w') := hpa
  rw [safe_no h1 h4]
  have t1 : decide ((s.length : Int) ≤ 7) = false := decide_eq_false (by omega)
  have t2 : decide ((s.length : Int) > 207) = false := decide_eq_false (by omega)
  have hto : ∀ W, (Instr.slice 9 (.string (bs s)) none (some (.int .i64 7)) none).run Tryz.prog W = .ok (.string (bs (s.take 7))) W := fun W => str_to s 7 (by omega) W
  have h7 : (s.take 7).length = 7 := by rw [List.length_take]; omega
  obtain ⟨T7, hT7⟩ : ∃ T7, T7 = s.take 7 := ⟨_, rfl⟩
  rw [← hT7] at h7 h4
  simp only [← hT7] at hto
  clear hT7
  have hlow := Lib.hid (fun W (h : Below w.heap.size w W) => lower_text T7 (by omega) W (HT.out.below h))
  rw [← low_mail T7 h7] at h4
  have q1 : ((bs (Lib.toLowerD T7)).toList == [109, 97, 105, 108, 116, 111, 58]) = false := (eq_bs _ _).trans h4
  have q2 : ((bs (Lib.toLowerD T7)).toList != [109, 97, 105, 108, 116, 111, 58]) = true := by rw [bne, q1]; rfl
  generalize Lib.toLowerD T7 = LT at *
  clear h1 h2 h3 h4 h7
  have H0 := Lib.hid (LK.start w)
  go_enter Tryz.func23, Tryz.ntmps23
  go_wp2_with (first | (go_at_call 14; refine (hpa.out _ H0.out.bel).mono ?_; rintro e w1 ⟨rfl, hb1⟩; have HA := Lib.hid (H0.out.call hb1); clear hb1) | ((with_reducible refine atS 3 8 ?_); refine wpList_storeL rfl (.tmp 3) (.tmp 8) rfl w1.heap.size (lcs Link.zero).toArray (by rfl) (by rfl) zcs (new_zcs w1) rfl rfl rfl ?_; intro X1 hb1 ht1; have HB := Lib.hid (HA.out.box Link.zero rfl hb1 ht1); clear hb1 ht1) | (go_at_call 39; refine (hlow.out _ HB.out.bel).mono ?_; rintro e w2 ⟨rfl, hb1⟩; have HC := Lib.hid (HB.out.call hb1); clear hb1))
  go_ret
  exact ⟨rfl, HC.out.bel⟩
set_option maxHeartbeats 4000000 in
set_option maxRecDepth 100000 in
theorem psafe_mail (s : Bs) (w : World) (hT : Tabs w) (hs : s.length ≤ 1000000) (h1 : parseP s = none) (h2 : 8 ≤ s.length) (h3 : s.length ≤ 207) (h4 : (small (s.take 7) == bMail) = true) :
    Calls Tryz.prog 23 #[.string (bs s)] w fun e w' => e = .returned (.bool (safeP s)) ∧ Below w.heap.size w w' := by
  have HT := Lib.hid hT
  clear hT
  have hz := bs_size s
  have hpa := Lib.hid (fun W (h : Below w.heap.size w W) => parse_val s W (HT.out.below h) (by omega))
  rw [h1] at hpa
  have hpa : Hid (∀ W, Below w.heap.size w W → Calls Tryz.prog 14 #[.string (bs s)] W fun e w' => e = .returned (.tuple #[.agg (lcs Link.zero).toArray, .int .i64 40]) ∧ Below W.heap.size W w') := hpa
  rw [safe_mail h1 h2 h3 h4]
  have t1 : decide ((s.length : Int) ≤ 7) = false := decide_eq_false (by omega)
  have t2 : decide ((s.length : Int) > 207) = false := decide_eq_false (by omega)
  have hto : ∀ W, (Instr.slice 9 (.string (bs s)) none (some (.int .i64 7)) none).run Tryz.prog W = .ok (.string (bs (s.take 7))) W := fun W => str_to s 7 (by omega) W
  have h7 : (s.take 7).length = 7 := by rw [List.length_take]; omega
  obtain ⟨T7, hT7⟩ : ∃ T7, T7 = s.take 7 := ⟨_, rfl⟩
  rw [← hT7] at h7 h4
  simp only [← hT7] at hto
  clear hT7
  have hlow := Lib.hid (fun W (h : Below w.heap.size w W) => lower_text T7 (by omega) W (HT.out.below h))
  rw [← low_mail T7 h7] at h4
  have q1 : ((bs (Lib.toLowerD T7)).toList == [109, 97, 105, 108, 116, 111, 58]) = true := (eq_bs _ _).trans h4
  have q2 : ((bs (Lib.toLowerD T7)).toList != [109, 97, 105, 108, 116, 111, 58]) = false := by rw [bne, q1]; rfl
  generalize Lib.toLowerD T7 = LT at *
  have hfr : ∀ W, (Instr.slice 9 (.string (bs s)) (some (.int .i64 7)) none none).run Tryz.prog W = .ok (.string (bs (s.drop 7))) W := fun W => str_from s 7 (by omega) W
  have hdl : (s.drop 7).length ≤ 1000000 := by rw [List.length_drop]; omega
  obtain ⟨D7, hD7⟩ : ∃ D7, D7 = s.drop 7 := ⟨_, rfl⟩
  rw [← hD7] at hdl ⊢
  simp only [← hD7] at hfr
  have hall := Lib.hid (fun W => all63_any D7 W hdl)
  obtain ⟨b, hb⟩ : ∃ b, b = D7.all mailB := ⟨_, rfl⟩
  rw [← hb] at hall ⊢
  clear h1 h2 h3 h4 h7 hD7 hdl hb
  have H0 := Lib.hid (LK.start w)
  go_enter Tryz.func23, Tryz.ntmps23
  go_wp2_with (first | (go_at_call 14; refine (hpa.out _ H0.out.bel).mono ?_; rintro e w1 ⟨rfl, hb1⟩; have HA := Lib.hid (H0.out.call hb1); clear hb1) | ((with_reducible refine atS 3 8 ?_); refine wpList_storeL rfl (.tmp 3) (.tmp 8) rfl w1.heap.size (lcs Link.zero).toArray (by rfl) (by rfl) zcs (new_zcs w1) rfl rfl rfl ?_; intro X1 hb1 ht1; have HB := Lib.hid (HA.out.box Link.zero rfl hb1 ht1); clear hb1 ht1) | (go_at_call 39; refine (hlow.out _ HB.out.bel).mono ?_; rintro e w2 ⟨rfl, hb1⟩; have HC := Lib.hid (HB.out.call hb1); clear hb1) | (go_at_call 42; refine (hall.out _).mono ?_; rintro e w4 ⟨rfl, rfl⟩))
  go_ret
  exact ⟨rfl, HC.out.bel⟩
theorem psafe_any (s : Bs) (w : World) (hT : Tabs w) (hs : s.length ≤ 1000000) :
    Calls Tryz.prog 23 #[.string (bs s)] w fun e w' => e = .returned (.bool (safeP s)) ∧ Below w.heap.size w w' := by
  cases h1 : parseP s with
  | some X => exact psafe_some s w hT hs X h1
  | none =>
    by_cases h2 : s.length < 8
    · exact psafe_short s w hT hs h1 h2
    · by_cases h3 : 207 < s.length
      · exact psafe_long s w hT hs h1 h3
      · cases h4 : (small (s.take 7) == bMail) with
        | false => exact psafe_no s w hT hs h1 (by omega) (by omega) h4
        | true => exact psafe_mail s w hT hs h1 (by omega) (by omega) h4
set_option maxHeartbeats 4000000 in
set_option maxRecDepth 100000 in
theorem rsafe_some (s : Bs) (w : World) (hT : Tabs w) (hs : s.length ≤ 1000000) (X : Link) (h1 : parseP s = some X) :
    Calls Tryz.prog 24 #[.string (bs s)] w fun e w' => e = .returned (.bool (safeP s)) ∧ Below w.heap.size w w' := by
  have HT := Lib.hid hT
  clear hT
  have hz := bs_size s
  have hpa := Lib.hid (fun W (_ : Below w.heap.size w W) => rparse_val s W (by omega))
  rw [h1] at hpa
  have hpa : Hid (∀ W, Below w.heap.size w W → Calls Tryz.prog 15 #[.string (bs s)] W fun e w' => e = .returned (.tuple #[.agg (lcs X).toArray, .bool true]) ∧ Below W.heap.size W w') := hpa
  rw [safe_some h1]
  generalize bs s = SS at *
  clear h1
  have H0 := Lib.hid (LK.start w)
  go_enter Tryz.func24, Tryz.ntmps24
  go_wp2_with (first | (go_at_call 15; refine (hpa.out _ H0.out.bel).mono ?_; rintro e w1 ⟨rfl, hb1⟩; have HA := Lib.hid (H0.out.call hb1); clear hb1) | ((with_reducible refine atS 3 9 ?_); refine wpList_storeL rfl (.tmp 3) (.tmp 9) rfl w1.heap.size (lcs X).toArray (by rfl) (by rfl) zcs (new_zcs w1) rfl rfl rfl ?_; intro X1 hb1 ht1; have HB := Lib.hid (HA.out.box X rfl hb1 ht1); clear hb1 ht1))
  go_ret
  exact ⟨rfl, HB.out.bel⟩
set_option maxHeartbeats 4000000 in
set_option maxRecDepth 100000 in
theorem rsafe_short (s : Bs) (w : World) (hT : Tabs w) (hs : s.length ≤ 1000000) (h1 : parseP s = none) (h2 : s.length < 8) :
    Calls Tryz.prog 24 #[.string (bs s)] w fun e w' => e = .returned (.bool (safeP s)) ∧ Below w.heap.size w w' := by
  have HT := Lib.hid hT
  clear hT
  have hz := bs_size s
  have hpa := Lib.hid (fun W (_ : Below w.heap.size w W) => rparse_val s W (by omega))
  rw [h1] at hpa
  have hpa : Hid (∀ W, Below w.heap.size w W → Calls Tryz.prog 15 #[.string (bs s)] W fun e w' => e = .returned (.tuple #[.agg (lcs Link.zero).toArray, .bool false]) ∧ Below W.heap.size W w') := hpa
  rw [safe_short h1 h2]
  have t1 : decide ((s.length : Int) < 8) = true := decide_eq_true (by omega)
  clear h1 h2
  generalize bs s = SS at *
  have H0 := Lib.hid (LK.start w)
  go_enter Tryz.func24, Tryz.ntmps24
  go_wp2_with (first | (go_at_call 15; refine (hpa.out _ H0.out.bel).mono ?_; rintro e w1 ⟨rfl, hb1⟩; have HA := Lib.hid (H0.out.call hb1); clear hb1) | ((with_reducible refine atS 3 9 ?_); refine wpList_storeL rfl (.tmp 3) (.tmp 9) rfl w1.heap.size (lcs Link.zero).toArray (by rfl) (by rfl) zcs (new_zcs w1) rfl rfl rfl ?_; intro X1 hb1 ht1; have HB := Lib.hid (HA.out.box Link.zero rfl hb1 ht1); clear hb1 ht1))
  go_ret
  exact ⟨rfl, HB.out.bel⟩
set_option maxHeartbeats 4000000 in
set_option maxRecDepth 100000 in
theorem rsafe_long (s : Bs) (w : World) (hT : Tabs w) (hs : s.length ≤ 1000000) (h1 : parseP s = none) (h2 : 207 < s.length) :
    Calls Tryz.prog 24 #[.string (bs s)] w fun e w' => e = .returned (.bool (safeP s)) ∧ Below w.heap.size w w' := by
  have HT := Lib.hid hT
  clear hT
  have hz := bs_size s
  have hpa := Lib.hid (fun W (_ : Below w.heap.size w W) => rparse_val s W (by omega))
  rw [h1] at hpa
  have hpa : Hid (∀ W, Below w.heap.size w W → Calls Tryz.prog 15 #[.string (bs s)] W fun e w' => e = .returned (.tuple #[.agg (lcs Link.zero).toArray, .bool false]) ∧ Below W.heap.size W w') := hpa
  rw [safe_long h1 h2]
  have t1 : decide ((s.length : Int) < 8) = false := decide_eq_false (by omega)
  have t2 : decide ((s.length : Int) > 207) = true := decide_eq_true (by omega)
  clear h1 h2
  generalize bs s = SS at *
  have H0 := Lib.hid (LK.start w)
  go_enter Tryz.func24, Tryz.ntmps24
  go_wp2_with (first | (go_at_call 15; refine (hpa.out _ H0.out.bel).mono ?_; rintro e w1 ⟨rfl, hb1⟩; have HA := Lib.hid (H0.out.call hb1); clear hb1) | ((with_reducible refine atS 3 9 ?_); refine wpList_storeL rfl (.tmp 3) (.tmp 9) rfl w1.heap.size (lcs Link.zero).toArray (by rfl) (by rfl) zcs (new_zcs w1) rfl rfl rfl ?_; intro X1 hb1 ht1; have HB := Lib.hid (HA.out.box Link.zero rfl hb1 ht1); clear hb1 ht1))
  go_ret
  exact ⟨rfl, HB.out.bel⟩
set_option maxHeartbeats 4000000 in
set_option maxRecDepth 100000 in
theorem rsafe_no (s : Bs) (w : World) (hT : Tabs w) (hs : s.length ≤ 1000000) (h1 : parseP s = none) (h2 : 8 ≤ s.length) (h3 : s.length ≤ 207) (h4 : (small (s.take 7) == bMail) = false) :
    Calls Tryz.prog 24 #[.string (bs s)] w fun e w' => e = .returned (.bool (safeP s)) ∧ Below w.heap.size w w' := by
  have HT := Lib.hid hT
  clear hT
  have hz := bs_size s
  have hpa := Lib.hid (fun W (_ : Below w.heap.size w W) => rparse_val s W (by omega))
  rw [h1] at hpa
  have hpa : Hid (∀ W, Below w.heap.size w W → Calls Tryz.prog 15 #[.string (bs s)] W fun e w' => e = .returned (.tuple #[.agg (lcs Link.zero).toArray, .bool false]) ∧ Below W.heap.size W w') := hpa
  rw [safe_no h1 h4]
  have t1 : decide ((s.length : Int) < 8) = false := decide_eq_false (by omega)
  have t2 : decide ((s.length : Int) > 207) = false := decide_eq_false (by omega)
  have hto : ∀ W, (Instr.slice 9 (.string (bs s)) none (some (.int .i64 7)) none).run Tryz.prog W = .ok (.string (bs (s.take 7))) W := fun W => str_to s 7 (by omega) W
  have h7 : (s.take 7).length = 7 := by rw [List.length_take]; omega
  obtain ⟨T7, hT7⟩ : ∃ T7, T7 = s.take 7 := ⟨_, rfl⟩
  rw [← hT7] at h7 h4
  simp only [← hT7] at hto
  clear hT7
  have hlow := Lib.hid (fun W (_ : Below w.heap.size w W) => small_any T7 W (by omega))
  have q1 : ((bs (small T7)).toList == [109, 97, 105, 108, 116, 111, 58]) = false := (eq_bs _ _).trans h4
  have q2 : ((bs (small T7)).toList != [109, 97, 105, 108, 116, 111, 58]) = true := by rw [bne, q1]; rfl
  generalize small T7 = LT at *
  clear h1 h2 h3 h4 h7
  have H0 := Lib.hid (LK.start w)
  go_enter Tryz.func24, Tryz.ntmps24
  go_wp2_with (first | (go_at_call 15; refine (hpa.out _ H0.out.bel).mono ?_; rintro e w1 ⟨rfl, hb1⟩; have HA := Lib.hid (H0.out.call hb1); clear hb1) | ((with_reducible refine atS 3 9 ?_); refine wpList_storeL rfl (.tmp 3) (.tmp 9) rfl w1.heap.size (lcs Link.zero).toArray (by rfl) (by rfl) zcs (new_zcs w1) rfl rfl rfl ?_; intro X1 hb1 ht1; have HB := Lib.hid (HA.out.box Link.zero rfl hb1 ht1); clear hb1 ht1) | (go_at_call 48; refine (hlow.out _ HB.out.bel).mono ?_; rintro e w2 ⟨rfl, hb1⟩; have HC := Lib.hid (HB.out.call hb1); clear hb1))
  go_ret
  exact ⟨rfl, HC.out.bel⟩
set_option maxHeartbeats 4000000 in
set_option maxRecDepth 100000 in
theorem rsafe_mail (s : Bs) (w : World) (hT : Tabs w) (hs : s.length ≤ 1000000) (h1 : parseP s = none) (h2 : 8 ≤ s.length) (h3 : s.length ≤ 207) (h4 : (small (s.take 7) == bMail) = true) :
    Calls Tryz.prog 24 #[.string (bs s)] w fun e w' => e = .returned (.bool (safeP s)) ∧ Below w.heap.size w w' := by
  have HT := Lib.hid hT
  clear hT
  have hz := bs_size s
  have hpa := Lib.hid (fun W (_ : Below w.heap.size w W) => rparse_val s W (by omega))
  rw [h1] at hpa
  have hpa : Hid (∀ W, Below w.heap.size w W → Calls Tryz.prog 15 #[.string (bs s)] W fun e w' => e = .returned (.tuple #[.agg (lcs Link.zero).toArray, .bool false]) ∧ Below W.heap.size W w') := hpa
  rw [safe_mail h1 h2 h3 h4]
  have t1 : decide ((s.length : Int) < 8) = false := decide_eq_false (by omega)
  have t2 : decide ((s.length : Int) > 207) = false := decide_eq_false (by omega)
  have hto : ∀ W, (Instr.slice 9 (.string (bs s)) none (some (.int .i64 7)) none).run Tryz.prog W = .ok (.string (bs (s.take 7))) W := fun W => str_to s 7 (by omega) W
  have h7 : (s.take 7).length = 7 := by rw [List.length_take]; omega
  obtain ⟨T7, hT7⟩ : ∃ T7, T7 = s.take 7 := ⟨_, rfl⟩
  rw [← hT7] at h7 h4
  simp only [← hT7] at hto
  clear hT7
  have hlow := Lib.hid (fun W (_ : Below w.heap.size w W) => small_any T7 W (by omega))
  have q1 : ((bs (small T7)).toList == [109, 97, 105, 108, 116, 111, 58]) = true := (eq_bs _ _).trans h4
  have q2 : ((bs (small T7)).toList != [109, 97, 105, 108, 116, 111, 58]) = false := by rw [bne, q1]; rfl
  generalize small T7 = LT at *
  obtain ⟨b, hb⟩ : ∃ b, b = (s.drop 7).all mailB := ⟨_, rfl⟩
  rw [← hb]
  have HX := Lib.hid (fun (i : Nat) (h : i < s.length) (W : World) => str_byte s i h W)
  have Hb := Lib.hid hb
  clear h1 h4 h7 hb
  have H0 := Lib.hid (LK.start w)
  go_enter Tryz.func24, Tryz.ntmps24
  go_upto_region 6 with (first | (go_at_call 15; refine (hpa.out _ H0.out.bel).mono ?_; rintro e w1 ⟨rfl, hb1⟩; have HA := Lib.hid (H0.out.call hb1); clear hb1) | ((with_reducible refine atS 3 9 ?_); refine wpList_storeL rfl (.tmp 3) (.tmp 9) rfl w1.heap.size (lcs Link.zero).toArray (by rfl) (by rfl) zcs (new_zcs w1) rfl rfl rfl ?_; intro X1 hb1 ht1; have HB := Lib.hid (HA.out.box Link.zero rfl hb1 ht1); clear hb1 ht1) | (go_at_call 48; refine (hlow.out _ HB.out.bel).mono ?_; rintro e w2 ⟨rfl, hb1⟩; have HC := Lib.hid (HB.out.call hb1); clear hb1))
  clear hto q1 q2 hlow hpa HA HB H0 t1 t2
  go_wp2_with fail
  go_loop [5] (fun i => ∃ j : Nat, i = .int .i64 (j : Int) ∧ 7 ≤ j ∧ j ≤ s.length ∧ Hid (((s.take j).drop 7).all mailB = true)) (fun i => s.length - (intOf i).toNat)
  case atStart => exact ⟨7, rfl, Nat.le_refl _, by omega, Lib.hid (by rw [List.drop_of_length_le (by rw [List.length_take]; omega)]; rfl)⟩
  case round =>
    obtain ⟨j, rfl, hj7, hj, HA⟩ := hrel
    by_cases hjn : j < s.length
    · have tj : decide ((j : Int) < (s.length : Int)) = true := by rw [decide_eq_true_eq]; omega
      have hx := fun W => HX.out j hjn W
      have hts : (s.take (j + 1)).drop 7 = (s.take j).drop 7 ++ [s.getD j 0] := by
        rw [List.take_succ_eq_append_getElem hjn, List.drop_append_of_le_length (by rw [List.length_take]; omega)]; simp [hjn]
      have hmem : s.getD j 0 ∈ s.drop 7 := by
        rw [show s.getD j 0 = (s.drop 7)[j - 7]'(by rw [List.length_drop]; omega) by
          rw [List.getElem_drop]
          simp only [show 7 + (j - 7) = j by omega]
          simp [hjn]]
        exact List.getElem_mem _
      have hC := rletter_any (s.getD j 0)
      obtain ⟨c, hc⟩ : ∃ c, c = s.getD j 0 := ⟨_, rfl⟩
      rw [← hc] at hts hC hmem
      simp only [← hc] at hx
      have HTS := Lib.hid hts; have HM := Lib.hid hmem
      clear hc hts hmem
      unfold u8v at hC
      have hme : mailB c = (alB c || (c == 64 || (c == 46 || (c == 95 || (c == 43 || c == 45))))) := by
        unfold mailB
        rw [Bool.eq_iff_iff]
        simp
      have q64 : (((c.toNat : Nat) : Int) != 64) = !(c == 64) := congrArg (!·) (u8_beq c 64 64 rfl)
      have q46 : (((c.toNat : Nat) : Int) != 46) = !(c == 46) := congrArg (!·) (u8_beq c 46 46 rfl)
      have q95 : (((c.toNat : Nat) : Int) != 95) = !(c == 95) := congrArg (!·) (u8_beq c 95 95 rfl)
      have q43 : (((c.toNat : Nat) : Int) != 43) = !(c == 43) := congrArg (!·) (u8_beq c 43 43 rfl)
      have q45 : (((c.toNat : Nat) : Int) != 45) = !(c == 45) := congrArg (!·) (u8_beq c 45 45 rfl)
      obtain ⟨cn, hcn⟩ : ∃ cn : Int, cn = ((c.toNat : Nat) : Int) := ⟨_, rfl⟩
      simp only [← hcn] at hx hC q64 q46 q95 q43 q45
      clear hcn
      cases ha : alB c with
      | true =>
        rw [ha] at hC hme
        clear ha
        have E1 := Lib.hid (show ((s.take (j + 1)).drop 7).all mailB = true by rw [HTS.out, List.all_append, HA.out]; simp [hme])
        have HC1 := Lib.hid hC
        clear hC hme
        go_wp2_with (go_at_call 49; refine (HC1.out _).mono ?_; rintro e w9 ⟨rfl, rfl⟩)
        exact ⟨⟨j + 1, by go_num, by omega, by omega, E1⟩, by simp [intOf]; omega⟩
      | false =>
        rw [ha] at hC hme
        clear ha
        cases h64 : (c == 64) with
        | true =>
          rw [h64] at q64 hme
          clear h64
          have E1 := Lib.hid (show ((s.take (j + 1)).drop 7).all mailB = true by rw [HTS.out, List.all_append, HA.out]; simp [hme])
          have HC1 := Lib.hid hC
          clear hC hme
          go_wp2_with (go_at_call 49; refine (HC1.out _).mono ?_; rintro e w9 ⟨rfl, rfl⟩)
          exact ⟨⟨j + 1, by go_num, by omega, by omega, E1⟩, by simp [intOf]; omega⟩
        | false =>
          rw [h64] at q64 hme
          clear h64
          cases h46 : (c == 46) with
          | true =>
            rw [h46] at q46 hme
            clear h46
            have E1 := Lib.hid (show ((s.take (j + 1)).drop 7).all mailB = true by rw [HTS.out, List.all_append, HA.out]; simp [hme])
            have HC1 := Lib.hid hC
            clear hC hme
            go_wp2_with (go_at_call 49; refine (HC1.out _).mono ?_; rintro e w9 ⟨rfl, rfl⟩)
            exact ⟨⟨j + 1, by go_num, by omega, by omega, E1⟩, by simp [intOf]; omega⟩
          | false =>
            rw [h46] at q46 hme
            clear h46
            cases h95 : (c == 95) with
            | true =>
              rw [h95] at q95 hme
              clear h95
              have E1 := Lib.hid (show ((s.take (j + 1)).drop 7).all mailB = true by rw [HTS.out, List.all_append, HA.out]; simp [hme])
              have HC1 := Lib.hid hC
              clear hC hme
              go_wp2_with (go_at_call 49; refine (HC1.out _).mono ?_; rintro e w9 ⟨rfl, rfl⟩)
              exact ⟨⟨j + 1, by go_num, by omega, by omega, E1⟩, by simp [intOf]; omega⟩
            | false =>
              rw [h95] at q95 hme
              clear h95
              cases h43 : (c == 43) with
              | true =>
                rw [h43] at q43 hme
                clear h43
                have E1 := Lib.hid (show ((s.take (j + 1)).drop 7).all mailB = true by rw [HTS.out, List.all_append, HA.out]; simp [hme])
                have HC1 := Lib.hid hC
                clear hC hme
                go_wp2_with (go_at_call 49; refine (HC1.out _).mono ?_; rintro e w9 ⟨rfl, rfl⟩)
                exact ⟨⟨j + 1, by go_num, by omega, by omega, E1⟩, by simp [intOf]; omega⟩
              | false =>
                rw [h43] at q43 hme
                clear h43
                cases h45 : (c == 45) with
                | true =>
                  rw [h45] at q45 hme
                  clear h45
                  have E1 := Lib.hid (show ((s.take (j + 1)).drop 7).all mailB = true by rw [HTS.out, List.all_append, HA.out]; simp [hme])
                  have HC1 := Lib.hid hC
                  clear hC hme
                  go_wp2_with (go_at_call 49; refine (HC1.out _).mono ?_; rintro e w9 ⟨rfl, rfl⟩)
                  exact ⟨⟨j + 1, by go_num, by omega, by omega, E1⟩, by simp [intOf]; omega⟩
                | false =>
                  rw [h45] at q45 hme
                  clear h45
                  have hbf : b = false := by
                    rw [Hb.out]
                    cases h : (s.drop 7).all mailB with
                    | false => rfl
                    | true => exact absurd (List.all_eq_true.1 h c HM.out) (by rw [hme]; decide)
                  have HBF := Lib.hid hbf
                  have HC1 := Lib.hid hC
                  clear hC hme hbf
                  go_wp2_with (go_at_call 49; refine (HC1.out _).mono ?_; rintro e w9 ⟨rfl, rfl⟩)
                  go_ret
                  exact ⟨by rw [HBF.out]; rfl, HC.out.bel⟩
    · obtain rfl : j = s.length := by omega
      have tj : decide ((s.length : Int) < (s.length : Int)) = false := by rw [decide_eq_false_iff_not]; omega
      have hbt : b = true := by
        rw [Hb.out]
        have := HA.out
        rwa [List.take_length] at this
      have HBT := Lib.hid hbt
      clear hbt
      go_wp2_with fail
      go_ret
      exact ⟨by rw [HBT.out]; rfl, HC.out.bel⟩
theorem rsafe_any (s : Bs) (w : World) (hT : Tabs w) (hs : s.length ≤ 1000000) :
    Calls Tryz.prog 24 #[.string (bs s)] w fun e w' => e = .returned (.bool (safeP s)) ∧ Below w.heap.size w w' := by
  cases h1 : parseP s with
  | some X => exact rsafe_some s w hT hs X h1
  | none =>
    by_cases h2 : s.length < 8
    · exact rsafe_short s w hT hs h1 h2
    · by_cases h3 : 207 < s.length
      · exact rsafe_long s w hT hs h1 h3
      · cases h4 : (small (s.take 7) == bMail) with
        | false => exact rsafe_no s w hT hs h1 (by omega) (by omega) h4
        | true => exact rsafe_mail s w hT hs h1 (by omega) (by omega) h4
set_option maxHeartbeats 4000000 in
theorem lsafe_any (s : Bs) (w : World) (hT : Tabs w) (hs : s.length ≤ 9223372036854775807) :
    Calls Tryz.prog 9 #[.string (bs s)] w fun e w' => e = .returned (.bool true) ∧ Below w.heap.size w w' := by
  have HT := Lib.hid hT
  clear hT
  have hz := bs_size s
  have hfi := Lib.hid (first_any w HT.out)
  have H0 := Lib.hid (LK.start w)
  by_cases h3 : 4000 < s.length
  · have t3 : decide ((s.length : Int) > 4000) = true := decide_eq_true (by omega)
    generalize bs s = SS at *
    clear hs h3
    go_enter Tryz.func9, Tryz.ntmps9
    go_wp2_with (go_at_call 13; refine hfi.out.mono ?_; rintro e w0 ⟨rfl, hb1⟩; have HA := Lib.hid (H0.out.call hb1); clear hb1)
    go_ret
    exact ⟨rfl, HA.out.bel⟩
  · have t3 : decide ((s.length : Int) > 4000) = false := decide_eq_false (by omega)
    have hpa := Lib.hid (fun W (h : Below w.heap.size w W) => psafe_any s W (HT.out.below h) (by omega))
    have hpb := Lib.hid (fun W (h : Below w.heap.size w W) => rsafe_any s W (HT.out.below h) (by omega))
    generalize bs s = SS at *
    generalize safeP s = b at *
    clear hs h3
    cases b
    all_goals go_enter Tryz.func9, Tryz.ntmps9
    all_goals go_wp2_with (first | (go_at_call 13; refine hfi.out.mono ?_; rintro e w0 ⟨rfl, hb1⟩; have HA := Lib.hid (H0.out.call hb1); clear hb1) | (go_at_call 23; refine (hpa.out _ HA.out.bel).mono ?_; rintro e w1 ⟨rfl, hb1⟩; have HB := Lib.hid (HA.out.call hb1); clear hb1) | (go_at_call 24; refine (hpb.out _ HB.out.bel).mono ?_; rintro e w2 ⟨rfl, hb1⟩; have HC := Lib.hid (HB.out.call hb1); clear hb1))
    all_goals go_ret
    all_goals exact ⟨rfl, HC.out.bel⟩
end Go.Proofs.YtcpkkaimingnlaaGreatDoor
