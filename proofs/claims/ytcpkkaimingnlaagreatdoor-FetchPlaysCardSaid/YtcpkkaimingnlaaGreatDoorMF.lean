/-
  Texts of this seat, joined: Lre, Lrs, Llw, Lat. Each says what it proves, ahead of itself.
-/
import Derived.Test.YtcpkkaimingnlaaGreatDoorME
import Derived.Test.YtcpkkaimingnlaaGreatDoorMB
import Derived.Test.YtcpkkaimingnlaaGreatDoorMA
import Derived.Lib.LastIndexByte
import Derived.Laws.StructEq
set_option linter.unusedVariables false
set_option linter.unusedSimpArgs false
section
namespace Go.Proofs.YtcpkkaimingnlaaGreatDoor
open Go.RowKit

theorem last_up (p : Bs) : Lib.lastIndexByte (bs p) 47 + 1 = ((upTo p).length : Int) := by
  have key : ∀ k, k ≤ p.length → Lib.lastIdx (bs p) 47 k + 1 = ((upTo (p.take k)).length : Int) := by
    intro k
    induction k with
    | zero => intro _; rfl
    | succ k ih =>
      intro hk
      have hkl : k < p.length := hk
      have ht : p.take (k + 1) = p.take k ++ [p[k]] := List.take_succ_eq_append_getElem hkl
      have hd : (bs p).data[k]! = p[k] := by
        show p.toArray[k]! = p[k]
        simp [hkl]
      rw [ht, upTo_snoc]
      unfold Lib.lastIdx
      rw [hd]
      by_cases h : p[k] = 47
      · rw [if_pos (by rw [h]; rfl), if_pos h, List.length_append, List.length_take, List.length_cons, List.length_nil]
        omega
      · rw [if_neg (by
          intro h2
          apply h
          rw [← UInt8.toNat_inj]
          show p[k].toNat = 47
          omega), if_neg h]
        exact ih (by omega)
  have := key p.length (Nat.le_refl _)
  rw [List.take_length] at this
  unfold Lib.lastIndexByte
  rw [bs_size]
  exact this
def sB (b : Link) : Prop := b.scheme.length ≤ 100000 ∧ b.host.length ≤ 100000 ∧ b.port ≤ 65535 ∧ b.path.length ≤ 100000 ∧ b.query.length ≤ 100000 ∧ b.frag.length ≤ 100000
theorem lastIdx_any (p : Bs) (hp : p.length ≤ 100000) (w : World) : Calls Tryz.prog 55 #[.string (bs p), .int .u8 47] w fun e w' => e = .returned (.int .i64 (Lib.lastIndexByte (bs p) 47)) ∧ w' = w :=
  Tryz.strings_LastIndexByte (bs p) 47 (by rw [bs_size]; omega) w
def RPost (R : Option Link) (w : World) (e : Ending) (w' : World) : Prop := e = .returned (.tuple #[.agg (lcs (R.getD Link.zero)).toArray, .int .i64 (errI R)]) ∧ Below w.heap.size w w'
theorem rs_start (w : World) (V : List Value) : PG w ((w.alloc (.cells V.toArray 24)).alloc (.cells #[.string ⟨#[]⟩, .string ⟨#[]⟩, .int .i64 0, .string ⟨#[]⟩, .string ⟨#[]⟩, .string ⟨#[]⟩, .bool false, .bool false] 24)) (w.heap.size + 1) w.heap.size zcs V := by
  have h1 : Blk (w.alloc (.cells V.toArray 24)) w.heap.size 24 V := by have := blk_new w 24 V.toArray; simpa using this
  have h2 := new_zcs (w.alloc (.cells V.toArray 24))
  have e : (w.alloc (.cells V.toArray 24)).heap.size = w.heap.size + 1 := by simp
  rw [e] at h2
  exact ⟨h2, blk_alloc h1 _, ((Below.refl _ w).alloc (Nat.le_refl _) _).alloc (by simp) _, by omega, by omega, Nat.le_refl _⟩
theorem print_len (l : Link) (h : sB l) : (printL l).length ≤ 600000 ∧ (originL l).length ≤ 300000 := by
  obtain ⟨h1, h2, h3, h4, h5, h6⟩ := h
  have hd := decT_len l.port h3
  have ho : (originL l).length ≤ 200010 := by
    unfold originL portT
    split
    · simp only [List.length_append, List.length_cons, List.length_nil]; omega
    · simp only [List.length_append, List.length_cons, List.length_nil]; omega
  refine ⟨?_, by omega⟩
  unfold printL qT fT
  simp only [List.length_append]
  have e1 : (if l.hasQ = true then 63 :: l.query else []).length ≤ 100001 := by split <;> simp <;> omega
  have e2 : (if l.hasF = true then 35 :: l.frag else []).length ≤ 100001 := by split <;> simp <;> omega
  omega
theorem print_val (l : Link) (h : sB l) (w : World) (hT : Tabs w) : Calls Tryz.prog 16 #[.agg (lcs l).toArray] w fun e w' => e = .returned (.string (bs (printL l))) ∧ Below w.heap.size w w' :=
  print_any l w hT ⟨by have := h.1; omega, by have := h.2.1; omega, h.2.2.1⟩ (by have := h.2.2.2.1; omega) (by have := h.2.2.2.2.1; omega) (by have := h.2.2.2.2.2; omega)
theorem origin_val (l : Link) (h : sB l) (w : World) (hT : Tabs w) : Calls Tryz.prog 51 #[.agg (lcs l).toArray] w fun e w' => e = .returned (.string (bs (originL l))) ∧ Below w.heap.size w w' :=
  origin_any l w hT ⟨by have := h.1; omega, by have := h.2.1; omega, h.2.2.1⟩
theorem sB_bareF {b : Link} (h : sB b) : sB (bareF b) := ⟨h.1, h.2.1, h.2.2.1, h.2.2.2.1, h.2.2.2.2.1, Nat.zero_le _⟩
theorem sB_bareQ {b : Link} (h : sB b) : sB (bareQ b) := ⟨h.1, h.2.1, h.2.2.1, h.2.2.2.1, Nat.zero_le _, Nat.zero_le _⟩
theorem sB_base {b : Link} (h : sB b) : sB (baseP b) := ⟨h.1, h.2.1, h.2.2.1, by
  show (if upTo b.path = [] then [47] else upTo b.path).length ≤ 100000
  have := upTo_len b.path
  have := h.2.2.2.1
  split
  · simp
  · omega, Nat.zero_le _, Nat.zero_le _⟩
set_option maxHeartbeats 4000000 in
set_option maxRecDepth 100000 in
theorem res_abs (b : Link) (s : Bs) (w : World) (hT : Tabs w) (hB : sB b) (hs : s.length ≤ 1000000) (hA : absP s = true) :
    Calls Tryz.prog 17 #[.agg (lcs b).toArray, .string (bs s)] w (RPost (parseP s) w) := by
  have hp0 := Lib.hid (rs_start w (lcs b))
  have HT := Lib.hid hT
  have HBS := Lib.hid hB
  have habs := Lib.hid (fun W => abs_any s (by omega) W)
  have hpr2 := Lib.hid (fun W => hasPrefix_any s [47, 47] W)
  have hpr1 := Lib.hid (fun W => hasPrefix_any s [47] W)
  have zS : (bs s).size ≤ 1000000 := by rw [bs_size]; exact hs
  clear hT hB
  rw [hA] at habs
  clear hpr1 hpr2
  have hfin := Lib.hid (fun W (h : Below w.heap.size w W) => parse_val s W (HT.out.below h) (by omega))
  generalize parseP s = R at *
  clear hA zS hs HBS
  obtain ⟨V, hV⟩ : ∃ V, V = lcs b := ⟨_, rfl⟩
  rw [← hV] at hp0 ⊢
  obtain ⟨VR, hVR⟩ : ∃ VR, VR = lcs (R.getD Link.zero) := ⟨_, rfl⟩
  obtain ⟨ER, hER⟩ : ∃ ER, ER = errI R := ⟨_, rfl⟩
  have eVR := lcs_len (R.getD Link.zero)
  have oVR := lcs_one (R.getD Link.zero)
  unfold RPost
  rw [← hVR] at eVR oVR hfin ⊢
  rw [← hER] at hfin ⊢
  have EVR := Lib.hid eVR; have OVR := Lib.hid oVR
  clear hVR hER eVR oVR
  clear hV
  generalize bs s = S at *
  go_enter Tryz.func17, Tryz.ntmps17
  go_upto_region 1 with fail
  obtain ⟨W0, hW0⟩ : ∃ W0, W0 = (w.alloc (.cells V.toArray 24)).alloc (.cells #[.string ⟨#[]⟩, .string ⟨#[]⟩, .int .i64 0, .string ⟨#[]⟩, .string ⟨#[]⟩, .string ⟨#[]⟩, .bool false, .bool false] 24) := ⟨_, rfl⟩
  rw [← hW0] at hp0
  try rw [← hW0]
  clear hW0
  go_wp2_with (first | (go_at_call 52; refine (habs.out _).mono ?_; rintro e w52 ⟨rfl, hb1⟩; have HP1 := Lib.hid (hp0.out.call hb1); clear hb1) | (go_at_call 14; refine (hfin.out _ HP1.out.bel).mono ?_; rintro e w14 ⟨rfl, hb1⟩; have HZ := Lib.hid (HP1.out.call hb1); clear hb1) | (refine wpList_storeL rfl (.tmp 4) (.tmp 11) rfl (w.heap.size + 1) VR.toArray (by rfl) (by rfl) _ HZ.out.b2 (by rw [List.size_toArray]; exact EVR.out) rfl OVR.out ?_; intro W9 hb9 ht9))
  refine bodyPost_ret (v := _) (results_link Tryz.results17 _ _ (w.heap.size + 1) _ rfl hb9 EVR.out) rfl ?_
  exact ⟨rfl, ht9.below _ _ (Nat.le_succ _) HZ.out.bel⟩
set_option maxHeartbeats 4000000 in
set_option maxRecDepth 100000 in
theorem res_two (b : Link) (s : Bs) (w : World) (hT : Tabs w) (hB : sB b) (hs : s.length ≤ 1000000) (hA : absP s = false) (h2 : Lib.hasPrefix s [47, 47] = true) :
    Calls Tryz.prog 17 #[.agg (lcs b).toArray, .string (bs s)] w (RPost (dottedP (b.scheme ++ [58] ++ s)) w) := by
  have hp0 := Lib.hid (rs_start w (lcs b))
  have HT := Lib.hid hT
  have HBS := Lib.hid hB
  have habs := Lib.hid (fun W => abs_any s (by omega) W)
  have hpr2 := Lib.hid (fun W => hasPrefix_any s [47, 47] W)
  have hpr1 := Lib.hid (fun W => hasPrefix_any s [47] W)
  have zS : (bs s).size ≤ 1000000 := by rw [bs_size]; exact hs
  clear hT hB
  rw [hA] at habs
  rw [h2] at hpr2
  clear hpr1
  have hfin := Lib.hid (fun W (h : Below w.heap.size w W) => dotted_any (b.scheme ++ [58] ++ s) W (HT.out.below h) (by have := HBS.out.1; simp only [List.length_append, List.length_cons, List.length_nil]; omega))
  generalize dottedP (b.scheme ++ [58] ++ s) = R at *
  rw [← bs_cat, ← bs_cat] at hfin
  clear hA h2 hs
  have e0 : (lcs b)[0]? = some (.string (bs b.scheme)) := rfl
  have z0 : (bs b.scheme).size ≤ 100000 := by rw [bs_size]; exact HBS.out.1
  obtain ⟨V, hV⟩ : ∃ V, V = lcs b := ⟨_, rfl⟩
  rw [← hV] at hp0 e0 ⊢
  obtain ⟨VR, hVR⟩ : ∃ VR, VR = lcs (R.getD Link.zero) := ⟨_, rfl⟩
  obtain ⟨ER, hER⟩ : ∃ ER, ER = errI R := ⟨_, rfl⟩
  have eVR := lcs_len (R.getD Link.zero)
  have oVR := lcs_one (R.getD Link.zero)
  unfold RPost
  rw [← hVR] at eVR oVR hfin ⊢
  rw [← hER] at hfin ⊢
  have EVR := Lib.hid eVR; have OVR := Lib.hid oVR
  clear hVR hER eVR oVR
  clear hV HBS
  have E0 := Lib.hid e0
  clear e0
  generalize bs s = S at *
  generalize bs b.scheme = S0 at *
  go_enter Tryz.func17, Tryz.ntmps17
  go_upto_region 1 with fail
  obtain ⟨W0, hW0⟩ : ∃ W0, W0 = (w.alloc (.cells V.toArray 24)).alloc (.cells #[.string ⟨#[]⟩, .string ⟨#[]⟩, .int .i64 0, .string ⟨#[]⟩, .string ⟨#[]⟩, .string ⟨#[]⟩, .bool false, .bool false] 24) := ⟨_, rfl⟩
  rw [← hW0] at hp0
  try rw [← hW0]
  clear hW0
  go_upto_region 4 with (first | (go_at_call 52; refine (habs.out _).mono ?_; rintro e w52 ⟨rfl, hb1⟩; have HP1 := Lib.hid (hp0.out.call hb1); clear hb1) | (go_at_call 53; refine (hpr2.out _).mono ?_; rintro e w' ⟨rfl, rfl⟩))
  have c0 : w52.cell? ⟨w.heap.size, 0, none⟩ = some (.string S0) := by rw [blk_cell HP1.out.b 0]; exact E0.out
  go_wp2_with (first | (go_at_call 54; refine (hfin.out _ HP1.out.bel).mono ?_; rintro e w54 ⟨rfl, hb1⟩; have HZ := Lib.hid (HP1.out.call hb1); clear hb1) | (refine wpList_storeL rfl (.tmp 4) (.tmp 22) rfl (w.heap.size + 1) VR.toArray (by rfl) (by rfl) _ HZ.out.b2 (by rw [List.size_toArray]; exact EVR.out) rfl OVR.out ?_; intro W9 hb9 ht9))
  refine bodyPost_ret (v := _) (results_link Tryz.results17 _ _ (w.heap.size + 1) _ rfl hb9 EVR.out) rfl ?_
  exact ⟨rfl, ht9.below _ _ (Nat.le_succ _) HZ.out.bel⟩
set_option maxHeartbeats 4000000 in
set_option maxRecDepth 100000 in
theorem res_one (b : Link) (s : Bs) (w : World) (hT : Tabs w) (hB : sB b) (hs : s.length ≤ 1000000) (hA : absP s = false) (h2 : Lib.hasPrefix s [47, 47] = false) (h1 : Lib.hasPrefix s [47] = true) :
    Calls Tryz.prog 17 #[.agg (lcs b).toArray, .string (bs s)] w (RPost (dottedP (originL b ++ s)) w) := by
  have hp0 := Lib.hid (rs_start w (lcs b))
  have HT := Lib.hid hT
  have HBS := Lib.hid hB
  have habs := Lib.hid (fun W => abs_any s (by omega) W)
  have hpr2 := Lib.hid (fun W => hasPrefix_any s [47, 47] W)
  have hpr1 := Lib.hid (fun W => hasPrefix_any s [47] W)
  have zS : (bs s).size ≤ 1000000 := by rw [bs_size]; exact hs
  clear hT hB
  rw [hA] at habs
  rw [h2] at hpr2
  rw [h1] at hpr1
  have hpl := print_len b HBS.out
  have hfin := Lib.hid (fun W (h : Below w.heap.size w W) => dotted_any (originL b ++ s) W (HT.out.below h) (by simp only [List.length_append]; omega))
  have horg := Lib.hid (fun W (h : Below w.heap.size w W) => origin_val b HBS.out W (HT.out.below h))
  generalize dottedP (originL b ++ s) = R at *
  rw [← bs_cat] at hfin
  clear hA h2 h1 hs
  have z0 : (bs (originL b)).size ≤ 300000 := by rw [bs_size]; exact hpl.2
  have eV := lcs_len b
  obtain ⟨V, hV⟩ : ∃ V, V = lcs b := ⟨_, rfl⟩
  rw [← hV] at hp0 horg eV ⊢
  obtain ⟨VR, hVR⟩ : ∃ VR, VR = lcs (R.getD Link.zero) := ⟨_, rfl⟩
  obtain ⟨ER, hER⟩ : ∃ ER, ER = errI R := ⟨_, rfl⟩
  have eVR := lcs_len (R.getD Link.zero)
  have oVR := lcs_one (R.getD Link.zero)
  unfold RPost
  rw [← hVR] at eVR oVR hfin ⊢
  rw [← hER] at hfin ⊢
  have EVR := Lib.hid eVR; have OVR := Lib.hid oVR
  clear hVR hER eVR oVR
  clear hV HBS hpl
  have EV := Lib.hid eV
  clear eV
  generalize bs s = S at *
  generalize bs (originL b) = S0 at *
  go_enter Tryz.func17, Tryz.ntmps17
  go_upto_region 1 with fail
  obtain ⟨W0, hW0⟩ : ∃ W0, W0 = (w.alloc (.cells V.toArray 24)).alloc (.cells #[.string ⟨#[]⟩, .string ⟨#[]⟩, .int .i64 0, .string ⟨#[]⟩, .string ⟨#[]⟩, .string ⟨#[]⟩, .bool false, .bool false] 24) := ⟨_, rfl⟩
  rw [← hW0] at hp0
  try rw [← hW0]
  clear hW0
  go_wp2_with (first | (go_at_call 52; refine (habs.out _).mono ?_; rintro e w52 ⟨rfl, hb1⟩; have HP1 := Lib.hid (hp0.out.call hb1); clear hb1) | (go_at_call_of 53 (Value.string S); first | (go_at_call 53; refine (hpr2.out _).mono ?_; rintro e w' ⟨rfl, rfl⟩) | (go_at_call 53; refine (hpr1.out _).mono ?_; rintro e w' ⟨rfl, rfl⟩)) | (refine wpList_loadL rfl (.tmp 2) rfl w.heap.size (by rfl) _ HP1.out.b EV.out ?_) | (go_at_call 51; refine (horg.out _ HP1.out.bel).mono ?_; rintro e w51 ⟨rfl, hb1⟩; have HP2 := Lib.hid (HP1.out.call hb1); clear hb1) | (go_at_call 54; refine (hfin.out _ HP2.out.bel).mono ?_; rintro e w54 ⟨rfl, hb1⟩; have HZ := Lib.hid (HP2.out.call hb1); clear hb1) | (refine wpList_storeL rfl (.tmp 4) (.tmp 32) rfl (w.heap.size + 1) VR.toArray (by rfl) (by rfl) _ HZ.out.b2 (by rw [List.size_toArray]; exact EVR.out) rfl OVR.out ?_; intro W9 hb9 ht9))
  refine bodyPost_ret (v := _) (results_link Tryz.results17 _ _ (w.heap.size + 1) _ rfl hb9 EVR.out) rfl ?_
  exact ⟨rfl, ht9.below _ _ (Nat.le_succ _) HZ.out.bel⟩
set_option maxHeartbeats 4000000 in
set_option maxRecDepth 100000 in
theorem res_none (b : Link) (s : Bs) (w : World) (hT : Tabs w) (hB : sB b) (hs : s.length ≤ 1000000) (hA : absP s = false) (h2 : Lib.hasPrefix s [47, 47] = false) (h1 : Lib.hasPrefix s [47] = false) (h0 : s = []) :
    Calls Tryz.prog 17 #[.agg (lcs b).toArray, .string (bs s)] w (RPost (parseP (printL (bareF b) ++ s)) w) := by
  have hp0 := Lib.hid (rs_start w (lcs b))
  have HT := Lib.hid hT
  have HBS := Lib.hid hB
  have habs := Lib.hid (fun W => abs_any s (by omega) W)
  have hpr2 := Lib.hid (fun W => hasPrefix_any s [47, 47] W)
  have hpr1 := Lib.hid (fun W => hasPrefix_any s [47] W)
  have zS : (bs s).size ≤ 1000000 := by rw [bs_size]; exact hs
  clear hT hB
  rw [hA] at habs
  rw [h2] at hpr2
  rw [h1] at hpr1
  have hpl := print_len (bareF b) (sB_bareF HBS.out)
  have hfin := Lib.hid (fun W (h : Below w.heap.size w W) => parse_val (printL (bareF b) ++ s) W (HT.out.below h) (by simp only [List.length_append]; omega))
  have horg := Lib.hid (fun W (h : Below w.heap.size w W) => print_val (bareF b) (sB_bareF HBS.out) W (HT.out.below h))
  have hv5 : lcs (bareF b) = ((lcs b).set 5 (.string ⟨#[]⟩)).set 7 (.bool false) := rfl
  rw [hv5] at horg
  generalize parseP (printL (bareF b) ++ s) = R at *
  rw [← bs_cat] at hfin
  clear hA h2 h1 hs hv5
  have z0 : (bs (printL (bareF b))).size ≤ 600000 := by rw [bs_size]; exact hpl.1
  have eV := lcs_len b
  obtain ⟨V, hV⟩ : ∃ V, V = lcs b := ⟨_, rfl⟩
  rw [← hV] at hp0 horg eV ⊢
  obtain ⟨VR, hVR⟩ : ∃ VR, VR = lcs (R.getD Link.zero) := ⟨_, rfl⟩
  obtain ⟨ER, hER⟩ : ∃ ER, ER = errI R := ⟨_, rfl⟩
  have eVR := lcs_len (R.getD Link.zero)
  have oVR := lcs_one (R.getD Link.zero)
  unfold RPost
  rw [← hVR] at eVR oVR hfin ⊢
  rw [← hER] at hfin ⊢
  have EVR := Lib.hid eVR; have OVR := Lib.hid oVR
  clear hVR hER eVR oVR
  clear hV HBS hpl
  have EV := Lib.hid eV
  clear eV
  have q1 : ((bs s).toList == []) = true := by rw [h0, bs_toList]; rfl
  have q2 : (bs s).toList = [] := by rw [h0, bs_toList]
  clear h0
  generalize bs s = S at *
  generalize bs (printL (bareF b)) = S0 at *
  go_enter Tryz.func17, Tryz.ntmps17
  go_upto_region 1 with fail
  obtain ⟨W0, hW0⟩ : ∃ W0, W0 = (w.alloc (.cells V.toArray 24)).alloc (.cells #[.string ⟨#[]⟩, .string ⟨#[]⟩, .int .i64 0, .string ⟨#[]⟩, .string ⟨#[]⟩, .string ⟨#[]⟩, .bool false, .bool false] 24) := ⟨_, rfl⟩
  rw [← hW0] at hp0
  try rw [← hW0]
  clear hW0
  go_wp2_with (first | (go_at_call 52; refine (habs.out _).mono ?_; rintro e w52 ⟨rfl, hb1⟩; have HP1 := Lib.hid (hp0.out.call hb1); clear hb1) | (go_at_call_of 53 (Value.string S); first | (go_at_call 53; refine (hpr2.out _).mono ?_; rintro e w' ⟨rfl, rfl⟩) | (go_at_call 53; refine (hpr1.out _).mono ?_; rintro e w' ⟨rfl, rfl⟩)) | (refine wpList_storeC rfl 9 (.tmp 34) (.const (.string ⟨#[]⟩)) rfl w.heap.size 5 (.string ⟨#[]⟩) (by rfl) (by rfl) rfl info9 24 _ HP1.out.b (by rw [EV.out]; decide) ?_; intro X1 hb1 ht1; have HP2 := Lib.hid (HP1.out.set hb1 ht1); clear hb1 ht1) | (refine wpList_storeC rfl 4 (.tmp 35) (.const (.bool false)) rfl w.heap.size 7 (.bool false) (by rfl) (by rfl) rfl info4 24 _ HP2.out.b (by rw [List.length_set, EV.out]; decide) ?_; intro X2 hb1 ht1; have HP3 := Lib.hid (HP2.out.set hb1 ht1); clear hb1 ht1) | (refine wpList_loadL rfl (.tmp 2) rfl w.heap.size (by rfl) _ HP3.out.b (by rw [List.length_set, List.length_set]; exact EV.out) ?_) | (go_at_call 16; refine (horg.out _ HP3.out.bel).mono ?_; rintro e w16 ⟨rfl, hb1⟩; have HP4 := Lib.hid (HP3.out.call hb1); clear hb1) | (go_at_call 14; refine (hfin.out _ HP4.out.bel).mono ?_; rintro e w14 ⟨rfl, hb1⟩; have HZ := Lib.hid (HP4.out.call hb1); clear hb1) | (refine wpList_storeL rfl (.tmp 4) (.tmp 48) rfl (w.heap.size + 1) VR.toArray (by rfl) (by rfl) _ HZ.out.b2 (by rw [List.size_toArray]; exact EVR.out) rfl OVR.out ?_; intro W9 hb9 ht9))
  refine bodyPost_ret (v := _) (results_link Tryz.results17 _ _ (w.heap.size + 1) _ rfl hb9 EVR.out) rfl ?_
  exact ⟨rfl, ht9.below _ _ (Nat.le_succ _) HZ.out.bel⟩
set_option maxHeartbeats 4000000 in
set_option maxRecDepth 100000 in
theorem res_hash (b : Link) (s : Bs) (w : World) (hT : Tabs w) (hB : sB b) (hs : s.length ≤ 1000000) (hA : absP s = false) (h2 : Lib.hasPrefix s [47, 47] = false) (h1 : Lib.hasPrefix s [47] = false) (r : Bs) (h0 : s = 35 :: r) :
    Calls Tryz.prog 17 #[.agg (lcs b).toArray, .string (bs s)] w (RPost (parseP (printL (bareF b) ++ s)) w) := by
  have hp0 := Lib.hid (rs_start w (lcs b))
  have HT := Lib.hid hT
  have HBS := Lib.hid hB
  have habs := Lib.hid (fun W => abs_any s (by omega) W)
  have hpr2 := Lib.hid (fun W => hasPrefix_any s [47, 47] W)
  have hpr1 := Lib.hid (fun W => hasPrefix_any s [47] W)
  have zS : (bs s).size ≤ 1000000 := by rw [bs_size]; exact hs
  clear hT hB
  rw [hA] at habs
  rw [h2] at hpr2
  rw [h1] at hpr1
  have hpl := print_len (bareF b) (sB_bareF HBS.out)
  have hfin := Lib.hid (fun W (h : Below w.heap.size w W) => parse_val (printL (bareF b) ++ s) W (HT.out.below h) (by simp only [List.length_append]; omega))
  have horg := Lib.hid (fun W (h : Below w.heap.size w W) => print_val (bareF b) (sB_bareF HBS.out) W (HT.out.below h))
  have hv5 : lcs (bareF b) = ((lcs b).set 5 (.string ⟨#[]⟩)).set 7 (.bool false) := rfl
  rw [hv5] at horg
  generalize parseP (printL (bareF b) ++ s) = R at *
  rw [← bs_cat] at hfin
  clear hA h2 h1 hs hv5
  have z0 : (bs (printL (bareF b))).size ≤ 600000 := by rw [bs_size]; exact hpl.1
  have eV := lcs_len b
  obtain ⟨V, hV⟩ : ∃ V, V = lcs b := ⟨_, rfl⟩
  rw [← hV] at hp0 horg eV ⊢
  obtain ⟨VR, hVR⟩ : ∃ VR, VR = lcs (R.getD Link.zero) := ⟨_, rfl⟩
  obtain ⟨ER, hER⟩ : ∃ ER, ER = errI R := ⟨_, rfl⟩
  have eVR := lcs_len (R.getD Link.zero)
  have oVR := lcs_one (R.getD Link.zero)
  unfold RPost
  rw [← hVR] at eVR oVR hfin ⊢
  rw [← hER] at hfin ⊢
  have EVR := Lib.hid eVR; have OVR := Lib.hid oVR
  clear hVR hER eVR oVR
  clear hV HBS hpl
  have EV := Lib.hid eV
  clear eV
  have q1 : ((bs s).toList == []) = false := by rw [h0, bs_toList]; rfl
  have q2 : (bs s).toList = [] ↔ False := by rw [h0, bs_toList]; simp
  have q3 : (bs s).toList.isEmpty = false := by rw [h0, bs_toList]; rfl
  have hx := str_byte s 0 (by rw [h0]; simp)
  have hg : s.getD 0 0 = 35 := by rw [h0]; rfl
  rw [hg] at hx
  have hx : ∀ W, (Instr.index 9 (.string (bs s)) (.int .i64 0)).run Tryz.prog W = .ok (.int .u8 35) W := hx
  clear h0 hg
  generalize bs s = S at *
  generalize bs (printL (bareF b)) = S0 at *
  go_enter Tryz.func17, Tryz.ntmps17
  go_upto_region 1 with fail
  obtain ⟨W0, hW0⟩ : ∃ W0, W0 = (w.alloc (.cells V.toArray 24)).alloc (.cells #[.string ⟨#[]⟩, .string ⟨#[]⟩, .int .i64 0, .string ⟨#[]⟩, .string ⟨#[]⟩, .string ⟨#[]⟩, .bool false, .bool false] 24) := ⟨_, rfl⟩
  rw [← hW0] at hp0
  try rw [← hW0]
  clear hW0
  go_wp2_with (first | (go_at_call 52; refine (habs.out _).mono ?_; rintro e w52 ⟨rfl, hb1⟩; have HP1 := Lib.hid (hp0.out.call hb1); clear hb1) | (go_at_call_of 53 (Value.string S); first | (go_at_call 53; refine (hpr2.out _).mono ?_; rintro e w' ⟨rfl, rfl⟩) | (go_at_call 53; refine (hpr1.out _).mono ?_; rintro e w' ⟨rfl, rfl⟩)) | (refine wpList_storeC rfl 9 (.tmp 34) (.const (.string ⟨#[]⟩)) rfl w.heap.size 5 (.string ⟨#[]⟩) (by rfl) (by rfl) rfl info9 24 _ HP1.out.b (by rw [EV.out]; decide) ?_; intro X1 hb1 ht1; have HP2 := Lib.hid (HP1.out.set hb1 ht1); clear hb1 ht1) | (refine wpList_storeC rfl 4 (.tmp 35) (.const (.bool false)) rfl w.heap.size 7 (.bool false) (by rfl) (by rfl) rfl info4 24 _ HP2.out.b (by rw [List.length_set, EV.out]; decide) ?_; intro X2 hb1 ht1; have HP3 := Lib.hid (HP2.out.set hb1 ht1); clear hb1 ht1) | (refine wpList_loadL rfl (.tmp 2) rfl w.heap.size (by rfl) _ HP3.out.b (by rw [List.length_set, List.length_set]; exact EV.out) ?_) | (go_at_call 16; refine (horg.out _ HP3.out.bel).mono ?_; rintro e w16 ⟨rfl, hb1⟩; have HP4 := Lib.hid (HP3.out.call hb1); clear hb1) | (go_at_call 14; refine (hfin.out _ HP4.out.bel).mono ?_; rintro e w14 ⟨rfl, hb1⟩; have HZ := Lib.hid (HP4.out.call hb1); clear hb1) | (refine wpList_storeL rfl (.tmp 4) (.tmp 48) rfl (w.heap.size + 1) VR.toArray (by rfl) (by rfl) _ HZ.out.b2 (by rw [List.size_toArray]; exact EVR.out) rfl OVR.out ?_; intro W9 hb9 ht9))
  refine bodyPost_ret (v := _) (results_link Tryz.results17 _ _ (w.heap.size + 1) _ rfl hb9 EVR.out) rfl ?_
  exact ⟨rfl, ht9.below _ _ (Nat.le_succ _) HZ.out.bel⟩
set_option maxHeartbeats 4000000 in
set_option maxRecDepth 100000 in
theorem res_query (b : Link) (s : Bs) (w : World) (hT : Tabs w) (hB : sB b) (hs : s.length ≤ 1000000) (hA : absP s = false) (h2 : Lib.hasPrefix s [47, 47] = false) (h1 : Lib.hasPrefix s [47] = false) (r : Bs) (h0 : s = 63 :: r) :
    Calls Tryz.prog 17 #[.agg (lcs b).toArray, .string (bs s)] w (RPost (parseP (printL (bareQ b) ++ s)) w) := by
  have hp0 := Lib.hid (rs_start w (lcs b))
  have HT := Lib.hid hT
  have HBS := Lib.hid hB
  have habs := Lib.hid (fun W => abs_any s (by omega) W)
  have hpr2 := Lib.hid (fun W => hasPrefix_any s [47, 47] W)
  have hpr1 := Lib.hid (fun W => hasPrefix_any s [47] W)
  have zS : (bs s).size ≤ 1000000 := by rw [bs_size]; exact hs
  clear hT hB
  rw [hA] at habs
  rw [h2] at hpr2
  rw [h1] at hpr1
  have hpl := print_len (bareQ b) (sB_bareQ HBS.out)
  have hfin := Lib.hid (fun W (h : Below w.heap.size w W) => parse_val (printL (bareQ b) ++ s) W (HT.out.below h) (by simp only [List.length_append]; omega))
  have horg := Lib.hid (fun W (h : Below w.heap.size w W) => print_val (bareQ b) (sB_bareQ HBS.out) W (HT.out.below h))
  have hv5 : lcs (bareQ b) = ((((lcs b).set 5 (.string ⟨#[]⟩)).set 7 (.bool false)).set 4 (.string ⟨#[]⟩)).set 6 (.bool false) := rfl
  rw [hv5] at horg
  generalize parseP (printL (bareQ b) ++ s) = R at *
  rw [← bs_cat] at hfin
  clear hA h2 h1 hs hv5
  have z0 : (bs (printL (bareQ b))).size ≤ 600000 := by rw [bs_size]; exact hpl.1
  have eV := lcs_len b
  obtain ⟨V, hV⟩ : ∃ V, V = lcs b := ⟨_, rfl⟩
  rw [← hV] at hp0 horg eV ⊢
  obtain ⟨VR, hVR⟩ : ∃ VR, VR = lcs (R.getD Link.zero) := ⟨_, rfl⟩
  obtain ⟨ER, hER⟩ : ∃ ER, ER = errI R := ⟨_, rfl⟩
  have eVR := lcs_len (R.getD Link.zero)
  have oVR := lcs_one (R.getD Link.zero)
  unfold RPost
  rw [← hVR] at eVR oVR hfin ⊢
  rw [← hER] at hfin ⊢
  have EVR := Lib.hid eVR; have OVR := Lib.hid oVR
  clear hVR hER eVR oVR
  clear hV HBS hpl
  have EV := Lib.hid eV
  clear eV
  have q1 : ((bs s).toList == []) = false := by rw [h0, bs_toList]; rfl
  have q2 : (bs s).toList = [] ↔ False := by rw [h0, bs_toList]; simp
  have q3 : (bs s).toList.isEmpty = false := by rw [h0, bs_toList]; rfl
  have hx := str_byte s 0 (by rw [h0]; simp)
  have hg : s.getD 0 0 = 63 := by rw [h0]; rfl
  rw [hg] at hx
  have hx : ∀ W, (Instr.index 9 (.string (bs s)) (.int .i64 0)).run Tryz.prog W = .ok (.int .u8 63) W := hx
  clear h0 hg
  generalize bs s = S at *
  generalize bs (printL (bareQ b)) = S0 at *
  go_enter Tryz.func17, Tryz.ntmps17
  go_upto_region 1 with fail
  obtain ⟨W0, hW0⟩ : ∃ W0, W0 = (w.alloc (.cells V.toArray 24)).alloc (.cells #[.string ⟨#[]⟩, .string ⟨#[]⟩, .int .i64 0, .string ⟨#[]⟩, .string ⟨#[]⟩, .string ⟨#[]⟩, .bool false, .bool false] 24) := ⟨_, rfl⟩
  rw [← hW0] at hp0
  try rw [← hW0]
  clear hW0
  go_wp2_with (first | (go_at_call 52; refine (habs.out _).mono ?_; rintro e w52 ⟨rfl, hb1⟩; have HP1 := Lib.hid (hp0.out.call hb1); clear hb1) | (go_at_call_of 53 (Value.string S); first | (go_at_call 53; refine (hpr2.out _).mono ?_; rintro e w' ⟨rfl, rfl⟩) | (go_at_call 53; refine (hpr1.out _).mono ?_; rintro e w' ⟨rfl, rfl⟩)) | (refine wpList_storeC rfl 9 (.tmp 34) (.const (.string ⟨#[]⟩)) rfl w.heap.size 5 (.string ⟨#[]⟩) (by rfl) (by rfl) rfl info9 24 _ HP1.out.b (by rw [EV.out]; decide) ?_; intro X1 hb1 ht1; have HP2 := Lib.hid (HP1.out.set hb1 ht1); clear hb1 ht1) | (refine wpList_storeC rfl 4 (.tmp 35) (.const (.bool false)) rfl w.heap.size 7 (.bool false) (by rfl) (by rfl) rfl info4 24 _ HP2.out.b (by rw [List.length_set, EV.out]; decide) ?_; intro X2 hb1 ht1; have HP3 := Lib.hid (HP2.out.set hb1 ht1); clear hb1 ht1) | (refine wpList_storeC rfl 9 (.tmp 50) (.const (.string ⟨#[]⟩)) rfl w.heap.size 4 (.string ⟨#[]⟩) (by rfl) (by rfl) rfl info9 24 _ HP3.out.b (by rw [List.length_set, List.length_set, EV.out]; decide) ?_; intro X3 hb1 ht1; have HP4 := Lib.hid (HP3.out.set hb1 ht1); clear hb1 ht1) | (refine wpList_storeC rfl 4 (.tmp 51) (.const (.bool false)) rfl w.heap.size 6 (.bool false) (by rfl) (by rfl) rfl info4 24 _ HP4.out.b (by rw [List.length_set, List.length_set, List.length_set, EV.out]; decide) ?_; intro X4 hb1 ht1; have HP5 := Lib.hid (HP4.out.set hb1 ht1); clear hb1 ht1) | (refine wpList_loadL rfl (.tmp 2) rfl w.heap.size (by rfl) _ HP5.out.b (by rw [List.length_set, List.length_set, List.length_set, List.length_set]; exact EV.out) ?_) | (go_at_call 16; refine (horg.out _ HP5.out.bel).mono ?_; rintro e w16 ⟨rfl, hb1⟩; have HP6 := Lib.hid (HP5.out.call hb1); clear hb1) | (go_at_call 14; refine (hfin.out _ HP6.out.bel).mono ?_; rintro e w14 ⟨rfl, hb1⟩; have HZ := Lib.hid (HP6.out.call hb1); clear hb1) | (refine wpList_storeL rfl (.tmp 4) (.tmp 60) rfl (w.heap.size + 1) VR.toArray (by rfl) (by rfl) _ HZ.out.b2 (by rw [List.size_toArray]; exact EVR.out) rfl OVR.out ?_; intro W9 hb9 ht9))
  refine bodyPost_ret (v := _) (results_link Tryz.results17 _ _ (w.heap.size + 1) _ rfl hb9 EVR.out) rfl ?_
  exact ⟨rfl, ht9.below _ _ (Nat.le_succ _) HZ.out.bel⟩
set_option maxHeartbeats 4000000 in
set_option maxRecDepth 100000 in
theorem res_other (b : Link) (s : Bs) (w : World) (hT : Tabs w) (hB : sB b) (hs : s.length ≤ 1000000) (hA : absP s = false) (h2 : Lib.hasPrefix s [47, 47] = false) (h1 : Lib.hasPrefix s [47] = false) (c : UInt8) (r : Bs) (h0 : s = c :: r) (n1 : c ≠ 35) (n2 : c ≠ 63) :
    Calls Tryz.prog 17 #[.agg (lcs b).toArray, .string (bs s)] w (RPost (dottedP (printL (baseP b) ++ s)) w) := by
  have hp0 := Lib.hid (rs_start w (lcs b))
  have HT := Lib.hid hT
  have HBS := Lib.hid hB
  have habs := Lib.hid (fun W => abs_any s (by omega) W)
  have hpr2 := Lib.hid (fun W => hasPrefix_any s [47, 47] W)
  have hpr1 := Lib.hid (fun W => hasPrefix_any s [47] W)
  have zS : (bs s).size ≤ 1000000 := by rw [bs_size]; exact hs
  clear hT hB
  rw [hA] at habs
  rw [h2] at hpr2
  rw [h1] at hpr1
  have hpl := print_len (baseP b) (sB_base HBS.out)
  have hfin := Lib.hid (fun W (h : Below w.heap.size w W) => dotted_any (printL (baseP b) ++ s) W (HT.out.below h) (by simp only [List.length_append]; omega))
  have horg := Lib.hid (fun W (h : Below w.heap.size w W) => print_val (baseP b) (sB_base HBS.out) W (HT.out.below h))
  have hv5 : lcs (baseP b) = (((((lcs b).set 5 (.string ⟨#[]⟩)).set 7 (.bool false)).set 4 (.string ⟨#[]⟩)).set 6 (.bool false)).set 3 (.string (bs (baseP b).path)) := rfl
  rw [hv5] at horg
  generalize dottedP (printL (baseP b) ++ s) = R at *
  rw [← bs_cat] at hfin
  clear hA h2 h1 hs hv5
  have z0 : (bs (printL (baseP b))).size ≤ 600000 := by rw [bs_size]; exact hpl.1
  have eV := lcs_len b
  have e3 : (((((lcs b).set 5 (.string ⟨#[]⟩)).set 7 (.bool false)).set 4 (.string ⟨#[]⟩)).set 6 (.bool false))[3]? = some (.string (bs b.path)) := rfl
  have e3b : ((((((lcs b).set 5 (.string ⟨#[]⟩)).set 7 (.bool false)).set 4 (.string ⟨#[]⟩)).set 6 (.bool false)).set 3 (.string (bs (upTo b.path))))[3]? = some (.string (bs (upTo b.path))) := rfl
  have hss : (((((((lcs b).set 5 (.string ⟨#[]⟩)).set 7 (.bool false)).set 4 (.string ⟨#[]⟩)).set 6 (.bool false)).set 3 (.string (bs (upTo b.path)))).set 3 (.string ⟨#[47]⟩)) = (((((lcs b).set 5 (.string ⟨#[]⟩)).set 7 (.bool false)).set 4 (.string ⟨#[]⟩)).set 6 (.bool false)).set 3 (.string ⟨#[47]⟩) := rfl
  have hlast := Lib.hid (fun W => lastIdx_any b.path HBS.out.2.2.2.1 W)
  have hlu := last_up b.path
  have hul := upTo_len b.path
  have hpl2 := HBS.out.2.2.2.1
  have hsl := str_to b.path (upTo b.path).length hul
  rw [upTo_take] at hsl
  obtain ⟨V, hV⟩ : ∃ V, V = lcs b := ⟨_, rfl⟩
  rw [← hV] at hp0 horg eV e3 e3b hss ⊢
  obtain ⟨VR, hVR⟩ : ∃ VR, VR = lcs (R.getD Link.zero) := ⟨_, rfl⟩
  obtain ⟨ER, hER⟩ : ∃ ER, ER = errI R := ⟨_, rfl⟩
  have eVR := lcs_len (R.getD Link.zero)
  have oVR := lcs_one (R.getD Link.zero)
  unfold RPost
  rw [← hVR] at eVR oVR hfin ⊢
  rw [← hER] at hfin ⊢
  have EVR := Lib.hid eVR; have OVR := Lib.hid oVR
  clear hVR hER eVR oVR
  have E3 := Lib.hid e3; have E3b := Lib.hid e3b; have HSS := Lib.hid hss
  clear e3 e3b hss
  clear hV HBS hpl
  have EV := Lib.hid eV
  clear eV
  have q1 : ((bs s).toList == []) = false := by rw [h0, bs_toList]; rfl
  have q2 : (bs s).toList = [] ↔ False := by rw [h0, bs_toList]; simp
  have q3 : (bs s).toList.isEmpty = false := by rw [h0, bs_toList]; rfl
  have hx := str_byte s 0 (by rw [h0]; simp)
  have hg : s.getD 0 0 = c := by rw [h0]; rfl
  rw [hg] at hx
  have hx : ∀ W, (Instr.index 9 (.string (bs s)) (.int .i64 0)).run Tryz.prog W = .ok (.int .u8 ((c.toNat : Nat) : Int)) W := hx
  have m1 : (((c.toNat : Nat) : Int) == 35) = false := (u8_beq c 35 35 rfl).trans (by simpa using n1)
  have m2 : (((c.toNat : Nat) : Int) == 63) = false := (u8_beq c 63 63 rfl).trans (by simpa using n2)
  clear h0 hg n1 n2
  generalize ((c.toNat : Nat) : Int) = y at *
  generalize bs s = S at *
  generalize bs (printL (baseP b)) = S0 at *
  generalize Lib.lastIndexByte (bs b.path) 47 = I at *
  have hI : I + 1 = ((upTo b.path).length : Int) := hlu
  rw [← hI] at hsl
  have i0 : 0 ≤ I + 1 := by omega
  have i1 : I ≤ 100000 := by omega
  have i2 : -1 ≤ I := by omega
  have i3 : IntKind.i64.wrap (I + 1) = I + 1 := IntWalk.i64_in _ (by omega)
  have HSL := Lib.hid hsl; have HI3 := Lib.hid i3
  clear hlu hul hpl2 hI hsl i3
  go_enter Tryz.func17, Tryz.ntmps17
  go_upto_region 1 with fail
  obtain ⟨W0, hW0⟩ : ∃ W0, W0 = (w.alloc (.cells V.toArray 24)).alloc (.cells #[.string ⟨#[]⟩, .string ⟨#[]⟩, .int .i64 0, .string ⟨#[]⟩, .string ⟨#[]⟩, .string ⟨#[]⟩, .bool false, .bool false] 24) := ⟨_, rfl⟩
  rw [← hW0] at hp0
  try rw [← hW0]
  clear hW0
  go_upto_region 13 with (first | (go_at_call 52; refine (habs.out _).mono ?_; rintro e w52 ⟨rfl, hb1⟩; have HP1 := Lib.hid (hp0.out.call hb1); clear hb1) | (go_at_call_of 53 (Value.string S); first | (go_at_call 53; refine (hpr2.out _).mono ?_; rintro e w' ⟨rfl, rfl⟩) | (go_at_call 53; refine (hpr1.out _).mono ?_; rintro e w' ⟨rfl, rfl⟩)) | (refine wpList_storeC rfl 9 (.tmp 34) (.const (.string ⟨#[]⟩)) rfl w.heap.size 5 (.string ⟨#[]⟩) (by rfl) (by rfl) rfl info9 24 _ HP1.out.b (by rw [EV.out]; decide) ?_; intro X1 hb1 ht1; have HP2 := Lib.hid (HP1.out.set hb1 ht1); clear hb1 ht1) | (refine wpList_storeC rfl 4 (.tmp 35) (.const (.bool false)) rfl w.heap.size 7 (.bool false) (by rfl) (by rfl) rfl info4 24 _ HP2.out.b (by rw [List.length_set, EV.out]; decide) ?_; intro X2 hb1 ht1; have HP3 := Lib.hid (HP2.out.set hb1 ht1); clear hb1 ht1) | (refine wpList_storeC rfl 9 (.tmp 50) (.const (.string ⟨#[]⟩)) rfl w.heap.size 4 (.string ⟨#[]⟩) (by rfl) (by rfl) rfl info9 24 _ HP3.out.b (by rw [List.length_set, List.length_set, EV.out]; decide) ?_; intro X3 hb1 ht1; have HP4 := Lib.hid (HP3.out.set hb1 ht1); clear hb1 ht1) | (refine wpList_storeC rfl 4 (.tmp 51) (.const (.bool false)) rfl w.heap.size 6 (.bool false) (by rfl) (by rfl) rfl info4 24 _ HP4.out.b (by rw [List.length_set, List.length_set, List.length_set, EV.out]; decide) ?_; intro X4 hb1 ht1; have HP5 := Lib.hid (HP4.out.set hb1 ht1); clear hb1 ht1))
  clear hp0 HP1 HP2 HP3 HP4 habs hpr1 hpr2
  have c3 : X4.cell? ⟨w.heap.size, 3, none⟩ = some (.string (bs b.path)) := by rw [blk_cell HP5.out.b 3]; exact E3.out
  have cd3 : X4.drew.cell? ⟨w.heap.size, 3, none⟩ = some (.string (bs b.path)) := c3
  obtain ⟨V4, hV4⟩ : ∃ V4, V4 = ((((V).set 5 (.string ⟨#[]⟩)).set 7 (.bool false)).set 4 (.string ⟨#[]⟩)).set 6 (.bool false) := ⟨_, rfl⟩
  rw [← hV4] at HP5 E3 E3b HSS horg
  have e4 : V4.length = 8 := by rw [hV4]; simp only [List.length_set]; exact EV.out
  have E4 := Lib.hid e4
  clear hV4 e4
  go_cut [] (fun wx => PG w wx (w.heap.size + 1) w.heap.size zcs (V4.set 3 (.string (bs (upTo b.path)))))
  case first =>
    have i3 := HI3.out
    have hsl := HSL.out
    go_still_tail 8, (by kernel_rfl)
    still_call (hlast.out _)
    repeat still_step
    refine wpStill_nil ?_
    change wpList _ _ _ _ _ X4.drew
    clear i3 hsl
    go_wp2_with (refine wpList_storeC rfl 9 (.tmp 69) (.tmp 68) rfl w.heap.size 3 (.string (bs (upTo b.path))) (by rfl) (by rfl) rfl info9 24 _ HP5.out.drew.b (by rw [E4.out]; decide) ?_; intro X7 hb1 ht1; have HP7 := Lib.hid (HP5.out.drew.set hb1 ht1); clear hb1 ht1)
    go_meet
    exact HP7.out
  case rest =>
    have HP6 := Lib.hid hcut
    clear hcut c3 cd3 HP5 HSL HI3
    have c3 : wc.cell? ⟨w.heap.size, 3, none⟩ = some (.string (bs (upTo b.path))) := by rw [blk_cell HP6.out.b 3]; exact E3b.out
    obtain ⟨ub, hub⟩ : ∃ ub, ub = (upTo b.path).isEmpty := ⟨_, rfl⟩
    have t1 : ((bs (upTo b.path)).toList == []) = ub := by rw [hub, bs_toList]; cases upTo b.path <;> rfl
    have t2 : (bs (upTo b.path)).toList.isEmpty = ub := by rw [hub, bs_toList]
    have HUB := Lib.hid hub
    clear hub
    go_upto_if 72 with fail
    clear t1 t2
    go_cut [] (fun wx => PG w wx (w.heap.size + 1) w.heap.size zcs (V4.set 3 (.string (bs (baseP b).path))))
    case first =>
      cases ub with
      | true =>
        have HU := Lib.hid (List.isEmpty_iff.1 HUB.out.symm)
        go_wp2_with (refine wpList_storeC rfl 9 (.tmp 73) (.const (.string ⟨#[47]⟩)) rfl w.heap.size 3 (.string ⟨#[47]⟩) (by rfl) (by rfl) rfl info9 24 _ HP6.out.b (by rw [List.length_set, E4.out]; decide) ?_; intro X7 hb1 ht1; have HP7 := Lib.hid (HP6.out.set hb1 ht1); clear hb1 ht1)
        go_meet
        rw [show (baseP b).path = [47] from if_pos HU.out]
        have := HP7.out
        rw [HSS.out] at this
        exact this
      | false =>
        have hu : ¬ upTo b.path = [] := fun e => by have := HUB.out; rw [e] at this; cases this
        have HU := Lib.hid hu
        clear hu
        go_wp2_with fail
        go_meet
        rw [show (baseP b).path = upTo b.path from if_neg HU.out]
        exact HP6.out
    case rest =>
      have HP8 := Lib.hid hcut
      clear hcut c3 HP6
      go_wp2_with (first | (refine wpList_loadL rfl (.tmp 2) rfl w.heap.size (by rfl) _ HP8.out.b (by rw [List.length_set]; exact E4.out) ?_) | (go_at_call 16; refine (horg.out _ HP8.out.bel).mono ?_; rintro e w16 ⟨rfl, hb1⟩; have HP9 := Lib.hid (HP8.out.call hb1); clear hb1) | (go_at_call 54; refine (hfin.out _ HP9.out.bel).mono ?_; rintro e w54 ⟨rfl, hb1⟩; have HZ := Lib.hid (HP9.out.call hb1); clear hb1) | (refine wpList_storeL rfl (.tmp 4) (.tmp 79) rfl (w.heap.size + 1) VR.toArray (by rfl) (by rfl) _ HZ.out.b2 (by rw [List.size_toArray]; exact EVR.out) rfl OVR.out ?_; intro W9 hb9 ht9))
      refine bodyPost_ret (v := _) (results_link Tryz.results17 _ _ (w.heap.size + 1) _ rfl hb9 EVR.out) rfl ?_
      exact ⟨rfl, ht9.below _ _ (Nat.le_succ _) HZ.out.bel⟩
end Go.Proofs.YtcpkkaimingnlaaGreatDoor
end
section
namespace Go.Proofs.YtcpkkaimingnlaaGreatDoor
open Go.RowKit

theorem resolve_any (b : Link) (s : Bs) (w : World) (hT : Tabs w) (hB : sB b) (hs : s.length ≤ 1000000) :
    Calls Tryz.prog 17 #[.agg (lcs b).toArray, .string (bs s)] w fun e w' => e = .returned (.tuple #[.agg (lcs ((resolveP b s).getD Link.zero)).toArray, .int .i64 (errI (resolveP b s))]) ∧ Below w.heap.size w w' := by
  cases hA : absP s with
  | true =>
    have e : resolveP b s = parseP s := by unfold resolveP; rw [if_pos hA]
    rw [e]; exact res_abs b s w hT hB hs hA
  | false =>
    cases h2 : Lib.hasPrefix s [47, 47] with
    | true =>
      have e : resolveP b s = dottedP (b.scheme ++ [58] ++ s) := by unfold resolveP; rw [if_neg (by rw [hA]; decide), if_pos h2]
      rw [e]; exact res_two b s w hT hB hs hA h2
    | false =>
      cases h1 : Lib.hasPrefix s [47] with
      | true =>
        have e : resolveP b s = dottedP (originL b ++ s) := by unfold resolveP; rw [if_neg (by rw [hA]; decide), if_neg (by rw [h2]; decide), if_pos h1]
        rw [e]; exact res_one b s w hT hB hs hA h2 h1
      | false =>
        match s, hA, h2, h1, hs with
        | [], hA, h2, h1, hs =>
          have e : resolveP b [] = parseP (printL (bareF b) ++ []) := by unfold resolveP; rw [if_neg (by rw [hA]; decide), if_neg (by rw [h2]; decide), if_neg (by rw [h1]; decide)]
          rw [e]; exact res_none b [] w hT hB hs hA h2 h1 rfl
        | c :: r, hA, h2, h1, hs =>
          by_cases n1 : c = 35
          · have e : resolveP b (c :: r) = parseP (printL (bareF b) ++ (c :: r)) := by unfold resolveP; rw [if_neg (by rw [hA]; decide), if_neg (by rw [h2]; decide), if_neg (by rw [h1]; decide)]; dsimp only; rw [if_pos n1]
            rw [e]; exact res_hash b (c :: r) w hT hB hs hA h2 h1 r (by rw [n1])
          · by_cases n2 : c = 63
            · have e : resolveP b (c :: r) = parseP (printL (bareQ b) ++ (c :: r)) := by unfold resolveP; rw [if_neg (by rw [hA]; decide), if_neg (by rw [h2]; decide), if_neg (by rw [h1]; decide)]; dsimp only; rw [if_neg n1, if_pos n2]
              rw [e]; exact res_query b (c :: r) w hT hB hs hA h2 h1 r (by rw [n2])
            · have e : resolveP b (c :: r) = dottedP (printL (baseP b) ++ (c :: r)) := by unfold resolveP; rw [if_neg (by rw [hA]; decide), if_neg (by rw [h2]; decide), if_neg (by rw [h1]; decide)]; dsimp only; rw [if_neg n1, if_neg n2]
              rw [e]; exact res_other b (c :: r) w hT hB hs hA h2 h1 c r rfl n1 n2
end Go.Proofs.YtcpkkaimingnlaaGreatDoor
end
section
namespace Go.Proofs.YtcpkkaimingnlaaGreatDoor
open Go.RowKit

theorem part_cell (t : TypeId) (d : TypeDesc) (hu : Tryz.prog.underlying t = some d) (hd : (match d with | .struct _ | .array _ _ => true | _ => false) = false) (cs : Array Value) (i : Nat) (v : Value) (h : cs[i]? = some v) (w : World) : (part t cs i).run Tryz.prog w = .ok v w := by
  have hagg : (isAgg t).run Tryz.prog w = .ok false w := by
    unfold isAgg
    rw [Sem.run_bind, run_underlying hu w]
    cases d <;> simp_all
  unfold part
  rw [Sem.run_bind, hagg]
  simp [h]
theorem eq_step (d : Nat) (f : Field) (fs : List Field) (xs ys : Array Value) (hn : f.name ≠ "_") (x y : Value) (b : Bool) (w : World)
    (hx : (part f.type xs f.offset).run Tryz.prog w = .ok x w) (hy : (part f.type ys f.offset).run Tryz.prog w = .ok y w) (he : (Op.equalIn d f.type x y).run Tryz.prog w = .ok b w)
    (c : Bool) (hr : (Op.eqFields d xs ys fs).run Tryz.prog w = .ok c w) : (Op.eqFields d xs ys (f :: fs)).run Tryz.prog w = .ok (b && c) w := by
  unfold Op.eqFields
  rw [if_pos hn]
  simp only [Sem.run_bind, hx, hy, he, Result.andThen_ok]
  cases b with
  | true => simpa using hr
  | false => simp
/-! ### In a walk -/
theorem wpList_want {P : Program} {ops : Array Oper} {rest : List Oper} {o : Oper} {a : Act} {w : World} {Q : Exit → Act → World → Prop} (hw : Region.wanted o (yielded ops a.tmps) = true)
    (h : ∀ K : Act → World → Prop, (∀ a w, wpList P ops Q rest a w → K a w) → o.wp P a w K Q) : wpList P ops Q (o :: rest) a w :=
  wpList_step fun K hK => by rw [if_pos hw]; exact h K hK
section
variable {ops : Array Oper} {rest : List Oper} {o : Oper} {a : Act} {w : World} {Q : Exit → Act → World → Prop}
/-- A load of a link's block. -/
theorem wpList_loadW (hw : Region.wanted o (yielded ops a.tmps) = true) (x : Operand) (ho : o.op = .load 24 x) (g : Nat) (hx : a.eval x = .pointer (some ⟨g, 0, none⟩)) (l : Link) (hb : Blk w g 24 (lcs l))
    (h : wpList Tryz.prog ops Q rest (a.put o.dst (.agg (lcs l).toArray)) w) : wpList Tryz.prog ops Q (o :: rest) a w :=
  wpList_want hw fun _ hK => wp_load_row 24 x ho g hx 24 (lcs l).toArray (0, 0) _ hb Tryz.underlying24 rfl (by rw [info24]; rfl) (hK _ _ h)
end
/-- The links that a law has laid so far. -/
structure LK (w W : World) (L : List (Nat × Link)) : Prop where
  bel : Below w.heap.size w W
  all : ∀ p ∈ L, Blk W p.1 24 (lcs p.2) ∧ w.heap.size ≤ p.1
theorem LK.start (w : World) : LK w w [] := ⟨Below.refl _ _, fun p hp => by cases hp⟩
theorem LK.call {w W W1 : World} {L : List (Nat × Link)} (h : LK w W L) (hb : Below W.heap.size W W1) : LK w W1 L :=
  ⟨h.bel.trans (hb.mono h.bel.size), fun p hp => ⟨blk_below (h.all p hp).1 hb (blk_lt (h.all p hp).1), (h.all p hp).2⟩⟩
theorem LK.box {w W W1 : World} {L : List (Nat × Link)} (h : LK w W L) (x : Link) {g : Nat} (hg : g = W.heap.size) (hb : Blk W1 g 24 (lcs x).toArray.toList) (ht : Turned (W.alloc (.cells #[.string ⟨#[]⟩, .string ⟨#[]⟩, .int .i64 0, .string ⟨#[]⟩, .string ⟨#[]⟩, .string ⟨#[]⟩, .bool false, .bool false] 24)) W1 g) : LK w W1 ((g, x) :: L) := by
  subst hg
  refine ⟨ht.below _ _ h.bel.size (h.bel.alloc h.bel.size _), fun p hp => ?_⟩
  rcases List.mem_cons.1 hp with rfl | hp
  · exact ⟨hb, h.bel.size⟩
  · have h1 := (h.all p hp).1
    exact ⟨ht.blk (blk_alloc h1 _) (Nat.ne_of_lt (blk_lt h1)), (h.all p hp).2⟩
theorem LK.at_ {w W : World} {L : List (Nat × Link)} (h : LK w W L) {g : Nat} {x : Link} (hm : (g, x) ∈ L) : Blk W g 24 (lcs x) := (h.all _ hm).1
theorem Turned.trans {w w1 w2 : World} {g : Nat} (h : Turned w w1 g) (h2 : Turned w1 w2 g) : Turned w w2 g :=
  ⟨fun k hk => (h2.far k hk).trans (h.far k hk), h2.size.trans h.size, fun B w0 hB hb => h2.below B w0 hB (h.below B w0 hB hb)⟩
/-- The link laid last turns. -/
theorem LK.turn {w W W1 : World} {L : List (Nat × Link)} {g : Nat} {x y : Link} (h : LK w W ((g, x) :: L)) (ht : Turned W W1 g) (hb : Blk W1 g 24 (lcs y)) (hn : ∀ p ∈ L, p.1 ≠ g) : LK w W1 ((g, y) :: L) := by
  have hg := (h.all _ (.head _)).2
  refine ⟨ht.below _ _ hg h.bel, fun p hp => ?_⟩
  rcases List.mem_cons.1 hp with rfl | hp
  · exact ⟨hb, hg⟩
  · have h1 := h.all p (.tail _ hp)
    exact ⟨ht.blk h1.1 (hn p hp), h1.2⟩
end Go.Proofs.YtcpkkaimingnlaaGreatDoor
end
section
namespace Go.Proofs.YtcpkkaimingnlaaGreatDoor
open Go.RowKit

section
variable {P : Program} {ops : Array Oper} {rest : List Oper} {a : Act} {w : World} {Q : Exit → Act → World → Prop}
theorem atD (k : Nat) {op : Op} {ty : TypeId} {pos : String} {after : Array Edge} {g : Option (Nat × Bool)} (h : wpList P ops Q (⟨some k, op, ty, pos, after, g⟩ :: rest) a w) : wpList P ops Q (⟨some k, op, ty, pos, after, g⟩ :: rest) a w := h
theorem atS (k j : Nat) {t ty : TypeId} {pos : String} {after : Array Edge} {g : Option (Nat × Bool)} (h : wpList P ops Q (⟨none, .store t (.tmp k) (.tmp j), ty, pos, after, g⟩ :: rest) a w) : wpList P ops Q (⟨none, .store t (.tmp k) (.tmp j), ty, pos, after, g⟩ :: rest) a w := h
theorem atC (k : Nat) {c : Value} {t ty : TypeId} {pos : String} {after : Array Edge} {g : Option (Nat × Bool)} (h : wpList P ops Q (⟨none, .store t (.tmp k) (.const c), ty, pos, after, g⟩ :: rest) a w) : wpList P ops Q (⟨none, .store t (.tmp k) (.const c), ty, pos, after, g⟩ :: rest) a w := h
end
end Go.Proofs.YtcpkkaimingnlaaGreatDoor
end
