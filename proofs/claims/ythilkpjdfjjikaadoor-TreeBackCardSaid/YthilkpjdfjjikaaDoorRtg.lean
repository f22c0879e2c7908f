/-
  The document's tag.
-/
import Derived.Test.YthilkpjdfjjikaaDoorRpaM
set_option linter.unusedVariables false
set_option linter.unusedSimpArgs false
namespace Go.Proofs.YthilkpjdfjjikaaDoor
open Go.RowKit

/-- What the document's tag answers. -/
def TagO (w' : World) (B : Nat) (k : Nat) (pv : Value) (nm : Bs) (ok : Bool) : Option Piece → Prop
  | none => ok = false ∧ ∃ A n c, pv = .slice A n c
  | some p => ok = true ∧ k = p.kind ∧ nm = p.name ∧ w'.ownsRow B 9 1 pv p.path.length (strs p.path)
def TagPost (w : World) (R : Option Piece) (e : Ending) (w' : World) : Prop :=
  (∃ k pv nm ok, e = .returned (.tuple #[.agg (pcells k pv nm), .bool ok]) ∧ TagO w' w.heap.size k pv nm ok R) ∧ Below w.heap.size w w'
theorem own_setRow {w : World} {B size n : Nat} {e : TypeId} {v : Value} {xs : List Value} (h : w.ownsRow B e size v n xs) (g : Nat) (cs : Array Value) (hg : g < B) : (w.setRow g cs).ownsRow B e size v n xs := by
  refine ⟨h.1, ?_⟩
  rcases h.2 with hn | ⟨g', cap, cur, rfl, h1, h2, r⟩
  · exact .inl hn
  · refine .inr ⟨g', cap, cur, rfl, h1, ?_, r⟩
    rw [← h2]
    simp only [World.setRow, Array.getElem?_modify]
    rw [if_neg (by omega)]
theorem far1' {w : World} {g : Nat} {t : TypeId} {cs : List Value} {p1 : Addr} {u1 : Value} (h : Blk w g t cs) (h1 : g ≠ p1.block) : (w.setCell p1 u1).heap[g]? = some (.cells cs.toArray t (0, 0)) := blk_far h h1 u1
theorem own_set35 {w : World} {B n : Nat} {v : Value} {xs : List Value} (h : w.ownsRow B 9 1 v n xs) {g : Nat} {cs : List Value} (hg : Blk w g 35 cs) (i : Nat) (u : Value) : (w.setCell ⟨g, i, none⟩ u).ownsRow B 9 1 v n xs :=
  own_type h (gb_set _ g i u) (fun g' hg' => by cases hg'; exact ⟨_, 35, (0, 0), hg, by decide⟩)
set_option maxHeartbeats 8000000 in
set_option maxRecDepth 100000 in
theorem tagR_0 (s : Bs) (hw : wordsL s = []) (w : World) (hl : s.length ≤ 800000) :
    Calls Tryd.prog 34 #[.string (bs s)] w (TagPost w (tagL s)) := by
  have H57 : Hid (∀ W, Calls Tryd.prog 57 #[.string (bs s)] W fun e w' => ∃ v, e = .returned v ∧ w'.ownsRow W.heap.size 9 1 v 0 (strs []) ∧ 0 ≤ s.length + 1 ∧ Below W.heap.size W w') := Lib.hid (fun W => by
    have h := wordsR_any s W (by omega)
    rw [hw] at h
    exact h)
  have HLE := Lib.hid (words_le s)
  rw [hw] at HLE
  obtain ⟨R, hR⟩ : ∃ R, R = tagL s := ⟨_, rfl⟩
  rw [← hR]
  unfold tagL at hR
  rw [hw] at hR
  have HR := Lib.hid hR
  clear hR hw
  go_enter Tryd.func34, Tryd.ntmps34
  go_upto_region 2 with (go_at_call 57; refine (H57.out _).mono ?_; rintro e w1 ⟨v, rfl, ho, hnb, hb1⟩; obtain ⟨A, c, rfl, hc, _⟩ := own_form ho)
  obtain ⟨hzb, hG⟩ := zero_block hb1
  have hbw : Below w.heap.size w w1 := ((Below.refl _ w).alloc (Nat.le_refl _) _).trans (hb1.mono (by simp))
  have hs1 := hbw.size
  have HZ := Lib.hid hzb; have HB := Lib.hid hbw
  clear hb1 hzb hbw H57
  have hr : R = none := by rw [HR.out]; first | done | rfl
  have HRf := Lib.hid hr
  clear hr HR
  go_wp2_with (refine wpList_store_row rfl 35 (.tmp 2) (.tmp 13) rfl w.heap.size #[_, _, _, _, _, _] rfl rfl 35 _ HZ.out (by kernel_rfl) rfl (by simp [Value.oneCell']) ?_)
  refine bodyPost_ret (v := .tuple #[.agg (pcells 0 (.slice none 0 0) []), .bool false]) (results_ct Tryd.results34 _ _ _ ⟨w.heap.size, 0, none⟩ _ rfl (load_res _ w.heap.size _ rfl ⟨_, HZ.out⟩)) rfl ?_
  exact ⟨⟨_, _, _, _, rfl, by rw [HRf.out]; exact ⟨rfl, _, _, _, rfl⟩⟩, below_setRow (HB.out) (Nat.le_refl _) _⟩
set_option maxHeartbeats 8000000 in
set_option maxRecDepth 100000 in
theorem tagR_1 (s : Bs) (a : Bs) (hw : wordsL s = [a]) (w : World) (hl : s.length ≤ 800000) :
    Calls Tryd.prog 34 #[.string (bs s)] w (TagPost w (tagL s)) := by
  have H57 : Hid (∀ W, Calls Tryd.prog 57 #[.string (bs s)] W fun e w' => ∃ v, e = .returned v ∧ w'.ownsRow W.heap.size 9 1 v 1 (strs [a]) ∧ 1 ≤ s.length + 1 ∧ Below W.heap.size W w') := Lib.hid (fun W => by
    have h := wordsR_any s W (by omega)
    rw [hw] at h
    exact h)
  have HLE := Lib.hid (words_le s)
  rw [hw] at HLE
  obtain ⟨R, hR⟩ : ∃ R, R = tagL s := ⟨_, rfl⟩
  rw [← hR]
  unfold tagL at hR
  rw [hw] at hR
  have HR := Lib.hid hR
  clear hR hw
  by_cases h1 : a = [101, 108, 115, 101]
  · have q1 : ((bs a).toList == [101, 108, 115, 101]) = true := by rw [eq_bs, beq_iff_eq]; exact h1
    go_enter Tryd.func34, Tryd.ntmps34
    go_upto_region 2 with (go_at_call 57; refine (H57.out _).mono ?_; rintro e w1 ⟨v, rfl, ho, hnb, hb1⟩; obtain ⟨A, cap, rfl, hA, _⟩ := ho.form (by omega))
    obtain ⟨hzb, hG⟩ := zero_block hb1
    have hbw : Below w.heap.size w w1 := ((Below.refl _ w).alloc (Nat.le_refl _) _).trans (hb1.mono (by simp))
    have hs1 := hbw.size
    have ho : w1.ownsRow (w.heap.size + 1) 9 1 (.slice (some ⟨A, 0, none⟩) 1 cap) 1 (strs [a]) := by have := ho; rwa [show (w.alloc (.cells #[.int .i64 0, .int .i64 0, .string ⟨#[]⟩, .slice none 0 0, .string ⟨#[]⟩, .int .i64 0] 35)).heap.size = w.heap.size + 1 from by simp] at this
    have wc0 := ho.cellAt 0 (by decide)
    simp only [strs, List.map_cons, List.map_nil, List.getElem?_cons_zero, List.getElem?_cons_succ] at wc0
    have hA2 := (ho.lt A rfl).2
    have HO := Lib.hid ho
    clear ho
    have HZ := Lib.hid hzb; have HB := Lib.hid hbw
    clear hb1 hzb hbw H57
    have hr : R = some ⟨5, 0, [], [], [], 0⟩ := by rw [HR.out]; (try dsimp only); rw [if_pos h1]
    have HRf := Lib.hid hr
    clear hr HR h1
    go_wp2_with (refine wpList_store_row rfl 35 (.tmp 2) (.tmp 23) rfl w.heap.size #[_, _, _, _, _, _] rfl rfl 35 _ HZ.out (by kernel_rfl) rfl (by simp [Value.oneCell']) ?_)
    refine bodyPost_ret (v := .tuple #[.agg (pcells 5 (.slice none 0 0) []), .bool true]) (results_ct Tryd.results34 _ _ _ ⟨w.heap.size, 0, none⟩ _ rfl (load_res _ w.heap.size _ rfl ⟨_, HZ.out⟩)) rfl ?_
    exact ⟨⟨_, _, _, _, rfl, by rw [HRf.out]; exact ⟨rfl, rfl, rfl, World.ownsRow_nil _ _ _ _⟩⟩, below_setRow (HB.out) (Nat.le_refl _) _⟩
  · by_cases h2 : a = [101, 110, 100]
    · have q1 : ((bs a).toList == [101, 108, 115, 101]) = false := by rw [eq_bs, beq_eq_false_iff_ne]; exact h1
      have q2 : ((bs a).toList == [101, 110, 100]) = true := by rw [eq_bs, beq_iff_eq]; exact h2
      go_enter Tryd.func34, Tryd.ntmps34
      go_upto_region 2 with (go_at_call 57; refine (H57.out _).mono ?_; rintro e w1 ⟨v, rfl, ho, hnb, hb1⟩; obtain ⟨A, cap, rfl, hA, _⟩ := ho.form (by omega))
      obtain ⟨hzb, hG⟩ := zero_block hb1
      have hbw : Below w.heap.size w w1 := ((Below.refl _ w).alloc (Nat.le_refl _) _).trans (hb1.mono (by simp))
      have hs1 := hbw.size
      have ho : w1.ownsRow (w.heap.size + 1) 9 1 (.slice (some ⟨A, 0, none⟩) 1 cap) 1 (strs [a]) := by have := ho; rwa [show (w.alloc (.cells #[.int .i64 0, .int .i64 0, .string ⟨#[]⟩, .slice none 0 0, .string ⟨#[]⟩, .int .i64 0] 35)).heap.size = w.heap.size + 1 from by simp] at this
      have wc0 := ho.cellAt 0 (by decide)
      simp only [strs, List.map_cons, List.map_nil, List.getElem?_cons_zero, List.getElem?_cons_succ] at wc0
      have hA2 := (ho.lt A rfl).2
      have HO := Lib.hid ho
      clear ho
      have HZ := Lib.hid hzb; have HB := Lib.hid hbw
      clear hb1 hzb hbw H57
      have hr : R = some ⟨6, 0, [], [], [], 0⟩ := by rw [HR.out]; (try dsimp only); rw [if_neg h1, if_pos h2]
      have HRf := Lib.hid hr
      clear hr HR h1 h2
      go_wp2_with (refine wpList_store_row rfl 35 (.tmp 2) (.tmp 33) rfl w.heap.size #[_, _, _, _, _, _] rfl rfl 35 _ HZ.out (by kernel_rfl) rfl (by simp [Value.oneCell']) ?_)
      refine bodyPost_ret (v := .tuple #[.agg (pcells 6 (.slice none 0 0) []), .bool true]) (results_ct Tryd.results34 _ _ _ ⟨w.heap.size, 0, none⟩ _ rfl (load_res _ w.heap.size _ rfl ⟨_, HZ.out⟩)) rfl ?_
      exact ⟨⟨_, _, _, _, rfl, by rw [HRf.out]; exact ⟨rfl, rfl, rfl, World.ownsRow_nil _ _ _ _⟩⟩, below_setRow (HB.out) (Nat.le_refl _) _⟩
    · have q1 : ((bs a).toList == [101, 108, 115, 101]) = false := by rw [eq_bs, beq_eq_false_iff_ne]; exact h1
      have q2 : ((bs a).toList == [101, 110, 100]) = false := by rw [eq_bs, beq_eq_false_iff_ne]; exact h2
      have hr0 : R = (pathL a).map fun l => ⟨1, 0, [], l, [], 0⟩ := by rw [HR.out]; (try dsimp only); rw [if_neg h1, if_neg h2]
      have HR := Lib.hid hr0
      clear hr0 h1 h2
      go_enter Tryd.func34, Tryd.ntmps34
      go_upto_region 2 with (go_at_call 57; refine (H57.out _).mono ?_; rintro e w1 ⟨v, rfl, ho, hnb, hb1⟩; obtain ⟨A, cap, rfl, hA, _⟩ := ho.form (by omega))
      obtain ⟨hzb, hG⟩ := zero_block hb1
      have hbw : Below w.heap.size w w1 := ((Below.refl _ w).alloc (Nat.le_refl _) _).trans (hb1.mono (by simp))
      have hs1 := hbw.size
      have ho : w1.ownsRow (w.heap.size + 1) 9 1 (.slice (some ⟨A, 0, none⟩) 1 cap) 1 (strs [a]) := by have := ho; rwa [show (w.alloc (.cells #[.int .i64 0, .int .i64 0, .string ⟨#[]⟩, .slice none 0 0, .string ⟨#[]⟩, .int .i64 0] 35)).heap.size = w.heap.size + 1 from by simp] at this
      have wc0 := ho.cellAt 0 (by decide)
      simp only [strs, List.map_cons, List.map_nil, List.getElem?_cons_zero, List.getElem?_cons_succ] at wc0
      have hA2 := (ho.lt A rfl).2
      have HO := Lib.hid ho
      clear ho
      have HZ := Lib.hid hzb; have HB := Lib.hid hbw
      clear hb1 hzb hbw H57
      have hal : a.length ≤ 900000 := by have := HLE.out a (by simp); omega
      have H58 := fun W => pathR_any a W hal
      obtain ⟨PL, hPL⟩ : ∃ PL, PL = pathL a := ⟨_, rfl⟩
      simp only [← hPL] at H58
      rw [← hPL] at HR
      have H58 := Lib.hid H58
      clear hPL hal
      go_upto_region 9 with (go_at_call 58; refine (H58.out _).mono ?_; rintro e w2 ⟨v, ok, rfl, hpo, hb2⟩)
      have hz2 := blk_below HZ.out hb2 hG
      have hbA : Below w.heap.size w w2 := HB.out.trans (hb2.mono hs1)
      have ho2 := own_below HO.out hb2 (fun k hk => (HO.out.lt k hk).2)
      have hs2 := hb2.size
      have HZ2 := Lib.hid hz2; have HBA := Lib.hid hbA; have HO2 := Lib.hid ho2; have HPO := Lib.hid hpo
      clear hz2 hbA ho2 hpo hb2 H58 wc0
      cases PL with
      | none =>
        obtain rfl : ok = false := HPO.out
        have hr : R = none := by rw [HR.out]; first | done | rfl
        have HRf := Lib.hid hr
        clear hr HR HPO
        go_wp2_with (refine wpList_store_row rfl 35 (.tmp 2) (.tmp 46) rfl w.heap.size #[_, _, _, _, _, _] rfl rfl 35 _ HZ2.out (by kernel_rfl) rfl (by simp [Value.oneCell']) ?_)
        refine bodyPost_ret (v := .tuple #[.agg (pcells 0 (.slice none 0 0) []), .bool false]) (results_ct Tryd.results34 _ _ _ ⟨w.heap.size, 0, none⟩ _ rfl (load_res _ w.heap.size _ rfl ⟨_, HZ2.out⟩)) rfl ?_
        exact ⟨⟨_, _, _, _, rfl, by rw [HRf.out]; exact ⟨rfl, _, _, _, rfl⟩⟩, below_setRow (HBA.out) (Nat.le_refl _) _⟩
      | some P =>
        obtain ⟨rfl, hpown⟩ := (show ok = true ∧ w2.ownsRow w1.heap.size 9 1 v P.length (strs P) from HPO.out)
        obtain ⟨PA, pc, rfl, _, _⟩ := own_form hpown
        go_upto_region 12 with fail
        have hgP := blk_new w2 35 #[.int .i64 1, .int .i64 0, .string ⟨#[]⟩, .slice PA P.length pc, .string ⟨#[]⟩, .int .i64 0]
        have hzP : Blk (w2.alloc (.cells #[.int .i64 1, .int .i64 0, .string ⟨#[]⟩, .slice PA P.length pc, .string ⟨#[]⟩, .int .i64 0] 35)) w.heap.size 35 zero6 := blk_alloc HZ2.out _
        have hbP : Below w.heap.size w (w2.alloc (.cells #[.int .i64 1, .int .i64 0, .string ⟨#[]⟩, .slice PA P.length pc, .string ⟨#[]⟩, .int .i64 0] 35)) := HBA.out.alloc (Nat.le_trans hs1 hs2) _
        have hoP : (w2.alloc (.cells #[.int .i64 1, .int .i64 0, .string ⟨#[]⟩, .slice PA P.length pc, .string ⟨#[]⟩, .int .i64 0] 35)).ownsRow w1.heap.size 9 1 (.slice PA P.length pc) P.length (strs P) := hpown.alloc _
        have hwP : (w2.alloc (.cells #[.int .i64 1, .int .i64 0, .string ⟨#[]⟩, .slice PA P.length pc, .string ⟨#[]⟩, .int .i64 0] 35)).ownsRow (w.heap.size + 1) 9 1 (.slice (some ⟨A, 0, none⟩) 1 cap) 1 (strs [a]) := HO2.out.alloc _
        have hne : w.heap.size ≠ w2.heap.size := by omega
        have hG2 : w.heap.size < w1.heap.size := hG
        obtain ⟨g, hg⟩ : ∃ g, g = w2.heap.size := ⟨_, rfl⟩
        obtain ⟨W, hW⟩ : ∃ W, W = w2.alloc (.cells #[.int .i64 1, .int .i64 0, .string ⟨#[]⟩, .slice PA P.length pc, .string ⟨#[]⟩, .int .i64 0] 35) := ⟨_, rfl⟩
        rw [← hW] at hgP hzP hbP hoP hwP ⊢
        have wc0 := hwP.cellAt 0 (by decide)
        simp only [strs, List.map_cons, List.map_nil, List.getElem?_cons_zero, List.getElem?_cons_succ] at wc0
        have p0 := blk_cell hgP 0
        have p1 := blk_cell hgP 1
        have p2 := blk_cell hgP 2
        have p3 := blk_cell hgP 3
        have p4 := blk_cell hgP 4
        have p5 := blk_cell hgP 5
        have pf0 := blk_frozen hgP 0
        have pf4 := blk_frozen hgP 4
        simp only [List.getElem?_cons_zero, List.getElem?_cons_succ] at p0 p1 p2 p3 p4 p5
        have HGP := Lib.hid hgP; have HZP := Lib.hid hzP; have HBP := Lib.hid hbP; have HOP := Lib.hid hoP; have HWP := Lib.hid hwP
        have hwl : w.heap.size ≤ w2.heap.size := Nat.le_trans hs1 hs2
        clear hW hgP hzP hbP hoP hwP hpown HPO
        have hr : R = some ⟨1, 0, [], P, [], 0⟩ := by rw [HR.out]; first | done | rfl
        have HRf := Lib.hid hr
        clear hr HR
        go_wp2_with (first | (refine wpList_store_row rfl 35 (.tmp 2) (.tmp 98) rfl w.heap.size #[_, _, _, _, _, _] rfl rfl 35 _ HZP.out (by kernel_rfl) rfl (by simp [Value.oneCell']) ?_))
        refine bodyPost_ret (v := .tuple #[.agg (pcells 1 (.slice PA P.length pc) []), .bool true]) (results_ct Tryd.results34 _ _ _ ⟨w.heap.size, 0, none⟩ _ rfl (load_res _ w.heap.size _ rfl ⟨_, HZP.out⟩)) rfl ?_
        exact ⟨⟨_, _, _, _, rfl, by rw [HRf.out]; exact ⟨rfl, rfl, rfl, own_base (own_setRow HOP.out w.heap.size _ hG2) (Nat.le_of_lt hG2)⟩⟩, below_setRow (HBP.out) (Nat.le_refl _) _⟩
set_option maxHeartbeats 8000000 in
set_option maxRecDepth 100000 in
theorem tagR_2 (s : Bs) (a b : Bs) (hw : wordsL s = [a, b]) (w : World) (hl : s.length ≤ 800000) :
    Calls Tryd.prog 34 #[.string (bs s)] w (TagPost w (tagL s)) := by
  have H57 : Hid (∀ W, Calls Tryd.prog 57 #[.string (bs s)] W fun e w' => ∃ v, e = .returned v ∧ w'.ownsRow W.heap.size 9 1 v 2 (strs [a, b]) ∧ 2 ≤ s.length + 1 ∧ Below W.heap.size W w') := Lib.hid (fun W => by
    have h := wordsR_any s W (by omega)
    rw [hw] at h
    exact h)
  have HLE := Lib.hid (words_le s)
  rw [hw] at HLE
  obtain ⟨R, hR⟩ : ∃ R, R = tagL s := ⟨_, rfl⟩
  rw [← hR]
  unfold tagL at hR
  rw [hw] at hR
  have HR := Lib.hid hR
  clear hR hw
  go_enter Tryd.func34, Tryd.ntmps34
  go_upto_region 2 with (go_at_call 57; refine (H57.out _).mono ?_; rintro e w1 ⟨v, rfl, ho, hnb, hb1⟩; obtain ⟨A, cap, rfl, hA, _⟩ := ho.form (by omega))
  obtain ⟨hzb, hG⟩ := zero_block hb1
  have hbw : Below w.heap.size w w1 := ((Below.refl _ w).alloc (Nat.le_refl _) _).trans (hb1.mono (by simp))
  have hs1 := hbw.size
  have ho : w1.ownsRow (w.heap.size + 1) 9 1 (.slice (some ⟨A, 0, none⟩) 2 cap) 2 (strs [a, b]) := by have := ho; rwa [show (w.alloc (.cells #[.int .i64 0, .int .i64 0, .string ⟨#[]⟩, .slice none 0 0, .string ⟨#[]⟩, .int .i64 0] 35)).heap.size = w.heap.size + 1 from by simp] at this
  have wc0 := ho.cellAt 0 (by decide)
  have wc1 := ho.cellAt 1 (by decide)
  simp only [strs, List.map_cons, List.map_nil, List.getElem?_cons_zero, List.getElem?_cons_succ] at wc0 wc1
  have hA2 := (ho.lt A rfl).2
  have HO := Lib.hid ho
  clear ho
  have HZ := Lib.hid hzb; have HB := Lib.hid hbw
  clear hb1 hzb hbw H57
  have hal : b.length ≤ 900000 := by have := HLE.out b (by simp); omega
  have H58 := fun W => pathR_any b W hal
  obtain ⟨PL, hPL⟩ : ∃ PL, PL = pathL b := ⟨_, rfl⟩
  simp only [← hPL] at H58
  rw [← hPL] at HR
  have H58 := Lib.hid H58
  clear hPL hal
  go_upto_region 9 with (go_at_call 58; refine (H58.out _).mono ?_; rintro e w2 ⟨v, ok, rfl, hpo, hb2⟩)
  have hz2 := blk_below HZ.out hb2 hG
  have hbA : Below w.heap.size w w2 := HB.out.trans (hb2.mono hs1)
  have ho2 := own_below HO.out hb2 (fun k hk => (HO.out.lt k hk).2)
  have hs2 := hb2.size
  have HZ2 := Lib.hid hz2; have HBA := Lib.hid hbA; have HO2 := Lib.hid ho2; have HPO := Lib.hid hpo
  clear hz2 hbA ho2 hpo hb2 H58 wc0 wc1
  cases PL with
  | none =>
    obtain rfl : ok = false := HPO.out
    have hr : R = none := by
      rw [HR.out]
      try dsimp only
      by_cases h1 : a = [104, 116, 109, 108]
      · rw [if_pos h1]; rfl
      · rw [if_neg h1]
        by_cases h2 : a = [105, 102]
        · rw [if_pos h2]; rfl
        · rw [if_neg h2]
    have HRf := Lib.hid hr
    clear hr HR HPO
    go_wp2_with (refine wpList_store_row rfl 35 (.tmp 2) (.tmp 46) rfl w.heap.size #[_, _, _, _, _, _] rfl rfl 35 _ HZ2.out (by kernel_rfl) rfl (by simp [Value.oneCell']) ?_)
    refine bodyPost_ret (v := .tuple #[.agg (pcells 0 (.slice none 0 0) []), .bool false]) (results_ct Tryd.results34 _ _ _ ⟨w.heap.size, 0, none⟩ _ rfl (load_res _ w.heap.size _ rfl ⟨_, HZ2.out⟩)) rfl ?_
    exact ⟨⟨_, _, _, _, rfl, by rw [HRf.out]; exact ⟨rfl, _, _, _, rfl⟩⟩, below_setRow (HBA.out) (Nat.le_refl _) _⟩
  | some P =>
    obtain ⟨rfl, hpown⟩ := (show ok = true ∧ w2.ownsRow w1.heap.size 9 1 v P.length (strs P) from HPO.out)
    obtain ⟨PA, pc, rfl, _, _⟩ := own_form hpown
    go_upto_region 12 with fail
    have hgP := blk_new w2 35 #[.int .i64 1, .int .i64 0, .string ⟨#[]⟩, .slice PA P.length pc, .string ⟨#[]⟩, .int .i64 0]
    have hzP : Blk (w2.alloc (.cells #[.int .i64 1, .int .i64 0, .string ⟨#[]⟩, .slice PA P.length pc, .string ⟨#[]⟩, .int .i64 0] 35)) w.heap.size 35 zero6 := blk_alloc HZ2.out _
    have hbP : Below w.heap.size w (w2.alloc (.cells #[.int .i64 1, .int .i64 0, .string ⟨#[]⟩, .slice PA P.length pc, .string ⟨#[]⟩, .int .i64 0] 35)) := HBA.out.alloc (Nat.le_trans hs1 hs2) _
    have hoP : (w2.alloc (.cells #[.int .i64 1, .int .i64 0, .string ⟨#[]⟩, .slice PA P.length pc, .string ⟨#[]⟩, .int .i64 0] 35)).ownsRow w1.heap.size 9 1 (.slice PA P.length pc) P.length (strs P) := hpown.alloc _
    have hwP : (w2.alloc (.cells #[.int .i64 1, .int .i64 0, .string ⟨#[]⟩, .slice PA P.length pc, .string ⟨#[]⟩, .int .i64 0] 35)).ownsRow (w.heap.size + 1) 9 1 (.slice (some ⟨A, 0, none⟩) 2 cap) 2 (strs [a, b]) := HO2.out.alloc _
    have hne : w.heap.size ≠ w2.heap.size := by omega
    have hG2 : w.heap.size < w1.heap.size := hG
    obtain ⟨g, hg⟩ : ∃ g, g = w2.heap.size := ⟨_, rfl⟩
    obtain ⟨W, hW⟩ : ∃ W, W = w2.alloc (.cells #[.int .i64 1, .int .i64 0, .string ⟨#[]⟩, .slice PA P.length pc, .string ⟨#[]⟩, .int .i64 0] 35) := ⟨_, rfl⟩
    rw [← hW] at hgP hzP hbP hoP hwP ⊢
    have wc0 := hwP.cellAt 0 (by decide)
    have wc1 := hwP.cellAt 1 (by decide)
    simp only [strs, List.map_cons, List.map_nil, List.getElem?_cons_zero, List.getElem?_cons_succ] at wc0 wc1
    have p0 := blk_cell hgP 0
    have p1 := blk_cell hgP 1
    have p2 := blk_cell hgP 2
    have p3 := blk_cell hgP 3
    have p4 := blk_cell hgP 4
    have p5 := blk_cell hgP 5
    have pf0 := blk_frozen hgP 0
    have pf4 := blk_frozen hgP 4
    simp only [List.getElem?_cons_zero, List.getElem?_cons_succ] at p0 p1 p2 p3 p4 p5
    have HGP := Lib.hid hgP; have HZP := Lib.hid hzP; have HBP := Lib.hid hbP; have HOP := Lib.hid hoP; have HWP := Lib.hid hwP
    have hwl : w.heap.size ≤ w2.heap.size := Nat.le_trans hs1 hs2
    clear hW hgP hzP hbP hoP hwP hpown HPO
    by_cases h1 : a = [104, 116, 109, 108]
    · have q1 : ((bs a).toList == [104, 116, 109, 108]) = true := by rw [eq_bs, beq_iff_eq]; exact h1
      have hr : R = some ⟨2, 0, [], P, [], 0⟩ := by rw [HR.out]; (try dsimp only); rw [if_pos h1]; rfl
      have HRf := Lib.hid hr
      clear hr HR
      clear h1
      go_wp2_with (first | (refine wpList_store_row rfl 35 (.tmp 2) (.tmp 59) rfl w.heap.size #[_, _, _, _, _, _] rfl rfl 35 _ (far1 HZP.out hne) (by kernel_rfl) rfl (by simp [Value.oneCell']) ?_))
      refine bodyPost_ret (v := .tuple #[.agg (pcells 2 (.slice PA P.length pc) []), .bool true]) (results_ct Tryd.results34 _ _ _ ⟨w.heap.size, 0, none⟩ _ rfl (load_res _ w.heap.size _ rfl ⟨_, (far1 HZP.out hne)⟩)) rfl ?_
      exact ⟨⟨_, _, _, _, rfl, by rw [HRf.out]; exact ⟨rfl, rfl, rfl, own_base (own_setRow (own_set35 HOP.out HGP.out 0 _) w.heap.size _ hG2) (Nat.le_of_lt hG2)⟩⟩, below_setRow ((HBP.out.setCell hwl _)) (Nat.le_refl _) _⟩
    · by_cases h2 : a = [105, 102]
      · have q1 : ((bs a).toList == [104, 116, 109, 108]) = false := by rw [eq_bs, beq_eq_false_iff_ne]; exact h1
        have q2 : ((bs a).toList == [105, 102]) = true := by rw [eq_bs, beq_iff_eq]; exact h2
        have hr : R = some ⟨4, 0, [], P, [], 0⟩ := by rw [HR.out]; (try dsimp only); rw [if_neg h1, if_pos h2]; rfl
        have HRf := Lib.hid hr
        clear hr HR
        clear h1 h2
        go_wp2_with (first | (refine wpList_store_row rfl 35 (.tmp 2) (.tmp 70) rfl w.heap.size #[_, _, _, _, _, _] rfl rfl 35 _ (far1 HZP.out hne) (by kernel_rfl) rfl (by simp [Value.oneCell']) ?_))
        refine bodyPost_ret (v := .tuple #[.agg (pcells 4 (.slice PA P.length pc) []), .bool true]) (results_ct Tryd.results34 _ _ _ ⟨w.heap.size, 0, none⟩ _ rfl (load_res _ w.heap.size _ rfl ⟨_, (far1 HZP.out hne)⟩)) rfl ?_
        exact ⟨⟨_, _, _, _, rfl, by rw [HRf.out]; exact ⟨rfl, rfl, rfl, own_base (own_setRow (own_set35 HOP.out HGP.out 0 _) w.heap.size _ hG2) (Nat.le_of_lt hG2)⟩⟩, below_setRow ((HBP.out.setCell hwl _)) (Nat.le_refl _) _⟩
      · have q1 : ((bs a).toList == [104, 116, 109, 108]) = false := by rw [eq_bs, beq_eq_false_iff_ne]; exact h1
        have q2 : ((bs a).toList == [105, 102]) = false := by rw [eq_bs, beq_eq_false_iff_ne]; exact h2
        have hr : R = none := by rw [HR.out]; (try dsimp only); rw [if_neg h1, if_neg h2]
        have HRf := Lib.hid hr
        clear hr HR
        clear h1 h2
        go_wp2_with (first | (refine wpList_store_row rfl 35 (.tmp 2) (.tmp 98) rfl w.heap.size #[_, _, _, _, _, _] rfl rfl 35 _ HZP.out (by kernel_rfl) rfl (by simp [Value.oneCell']) ?_))
        refine bodyPost_ret (v := .tuple #[.agg (pcells 1 (.slice PA P.length pc) []), .bool false]) (results_ct Tryd.results34 _ _ _ ⟨w.heap.size, 0, none⟩ _ rfl (load_res _ w.heap.size _ rfl ⟨_, HZP.out⟩)) rfl ?_
        exact ⟨⟨_, _, _, _, rfl, by rw [HRf.out]; exact ⟨rfl, _, _, _, rfl⟩⟩, below_setRow (HBP.out) (Nat.le_refl _) _⟩
set_option maxHeartbeats 8000000 in
set_option maxRecDepth 100000 in
theorem tagR_4 (s : Bs) (a b c d : Bs) (hw : wordsL s = [a, b, c, d]) (w : World) (hl : s.length ≤ 800000) :
    Calls Tryd.prog 34 #[.string (bs s)] w (TagPost w (tagL s)) := by
  have H57 : Hid (∀ W, Calls Tryd.prog 57 #[.string (bs s)] W fun e w' => ∃ v, e = .returned v ∧ w'.ownsRow W.heap.size 9 1 v 4 (strs [a, b, c, d]) ∧ 4 ≤ s.length + 1 ∧ Below W.heap.size W w') := Lib.hid (fun W => by
    have h := wordsR_any s W (by omega)
    rw [hw] at h
    exact h)
  have HLE := Lib.hid (words_le s)
  rw [hw] at HLE
  obtain ⟨R, hR⟩ : ∃ R, R = tagL s := ⟨_, rfl⟩
  rw [← hR]
  unfold tagL at hR
  rw [hw] at hR
  have HR := Lib.hid hR
  clear hR hw
  go_enter Tryd.func34, Tryd.ntmps34
  go_upto_region 2 with (go_at_call 57; refine (H57.out _).mono ?_; rintro e w1 ⟨v, rfl, ho, hnb, hb1⟩; obtain ⟨A, cap, rfl, hA, _⟩ := ho.form (by omega))
  obtain ⟨hzb, hG⟩ := zero_block hb1
  have hbw : Below w.heap.size w w1 := ((Below.refl _ w).alloc (Nat.le_refl _) _).trans (hb1.mono (by simp))
  have hs1 := hbw.size
  have ho : w1.ownsRow (w.heap.size + 1) 9 1 (.slice (some ⟨A, 0, none⟩) 4 cap) 4 (strs [a, b, c, d]) := by have := ho; rwa [show (w.alloc (.cells #[.int .i64 0, .int .i64 0, .string ⟨#[]⟩, .slice none 0 0, .string ⟨#[]⟩, .int .i64 0] 35)).heap.size = w.heap.size + 1 from by simp] at this
  have wc0 := ho.cellAt 0 (by decide)
  have wc1 := ho.cellAt 1 (by decide)
  have wc2 := ho.cellAt 2 (by decide)
  have wc3 := ho.cellAt 3 (by decide)
  simp only [strs, List.map_cons, List.map_nil, List.getElem?_cons_zero, List.getElem?_cons_succ] at wc0 wc1 wc2 wc3
  have hA2 := (ho.lt A rfl).2
  have HO := Lib.hid ho
  clear ho
  have HZ := Lib.hid hzb; have HB := Lib.hid hbw
  clear hb1 hzb hbw H57
  have hal : d.length ≤ 900000 := by have := HLE.out d (by simp); omega
  have H58 := fun W => pathR_any d W hal
  obtain ⟨PL, hPL⟩ : ∃ PL, PL = pathL d := ⟨_, rfl⟩
  simp only [← hPL] at H58
  rw [← hPL] at HR
  have H58 := Lib.hid H58
  clear hPL hal
  go_upto_region 9 with (go_at_call 58; refine (H58.out _).mono ?_; rintro e w2 ⟨v, ok, rfl, hpo, hb2⟩)
  have hz2 := blk_below HZ.out hb2 hG
  have hbA : Below w.heap.size w w2 := HB.out.trans (hb2.mono hs1)
  have ho2 := own_below HO.out hb2 (fun k hk => (HO.out.lt k hk).2)
  have hs2 := hb2.size
  have HZ2 := Lib.hid hz2; have HBA := Lib.hid hbA; have HO2 := Lib.hid ho2; have HPO := Lib.hid hpo
  clear hz2 hbA ho2 hpo hb2 H58 wc0 wc1 wc2 wc3
  cases PL with
  | none =>
    obtain rfl : ok = false := HPO.out
    have hr : R = none := by
      rw [HR.out]
      try dsimp only
      by_cases h1 : a = [102, 111, 114] ∧ c = [105, 110] ∧ nameB b = true
      · rw [if_pos h1]; rfl
      · rw [if_neg h1]
    have HRf := Lib.hid hr
    clear hr HR HPO
    go_wp2_with (refine wpList_store_row rfl 35 (.tmp 2) (.tmp 46) rfl w.heap.size #[_, _, _, _, _, _] rfl rfl 35 _ HZ2.out (by kernel_rfl) rfl (by simp [Value.oneCell']) ?_)
    refine bodyPost_ret (v := .tuple #[.agg (pcells 0 (.slice none 0 0) []), .bool false]) (results_ct Tryd.results34 _ _ _ ⟨w.heap.size, 0, none⟩ _ rfl (load_res _ w.heap.size _ rfl ⟨_, HZ2.out⟩)) rfl ?_
    exact ⟨⟨_, _, _, _, rfl, by rw [HRf.out]; exact ⟨rfl, _, _, _, rfl⟩⟩, below_setRow (HBA.out) (Nat.le_refl _) _⟩
  | some P =>
    obtain ⟨rfl, hpown⟩ := (show ok = true ∧ w2.ownsRow w1.heap.size 9 1 v P.length (strs P) from HPO.out)
    obtain ⟨PA, pc, rfl, _, _⟩ := own_form hpown
    go_upto_region 12 with fail
    have hgP := blk_new w2 35 #[.int .i64 1, .int .i64 0, .string ⟨#[]⟩, .slice PA P.length pc, .string ⟨#[]⟩, .int .i64 0]
    have hzP : Blk (w2.alloc (.cells #[.int .i64 1, .int .i64 0, .string ⟨#[]⟩, .slice PA P.length pc, .string ⟨#[]⟩, .int .i64 0] 35)) w.heap.size 35 zero6 := blk_alloc HZ2.out _
    have hbP : Below w.heap.size w (w2.alloc (.cells #[.int .i64 1, .int .i64 0, .string ⟨#[]⟩, .slice PA P.length pc, .string ⟨#[]⟩, .int .i64 0] 35)) := HBA.out.alloc (Nat.le_trans hs1 hs2) _
    have hoP : (w2.alloc (.cells #[.int .i64 1, .int .i64 0, .string ⟨#[]⟩, .slice PA P.length pc, .string ⟨#[]⟩, .int .i64 0] 35)).ownsRow w1.heap.size 9 1 (.slice PA P.length pc) P.length (strs P) := hpown.alloc _
    have hwP : (w2.alloc (.cells #[.int .i64 1, .int .i64 0, .string ⟨#[]⟩, .slice PA P.length pc, .string ⟨#[]⟩, .int .i64 0] 35)).ownsRow (w.heap.size + 1) 9 1 (.slice (some ⟨A, 0, none⟩) 4 cap) 4 (strs [a, b, c, d]) := HO2.out.alloc _
    have hne : w.heap.size ≠ w2.heap.size := by omega
    have hG2 : w.heap.size < w1.heap.size := hG
    obtain ⟨g, hg⟩ : ∃ g, g = w2.heap.size := ⟨_, rfl⟩
    obtain ⟨W, hW⟩ : ∃ W, W = w2.alloc (.cells #[.int .i64 1, .int .i64 0, .string ⟨#[]⟩, .slice PA P.length pc, .string ⟨#[]⟩, .int .i64 0] 35) := ⟨_, rfl⟩
    rw [← hW] at hgP hzP hbP hoP hwP ⊢
    have wc0 := hwP.cellAt 0 (by decide)
    have wc1 := hwP.cellAt 1 (by decide)
    have wc2 := hwP.cellAt 2 (by decide)
    have wc3 := hwP.cellAt 3 (by decide)
    simp only [strs, List.map_cons, List.map_nil, List.getElem?_cons_zero, List.getElem?_cons_succ] at wc0 wc1 wc2 wc3
    have p0 := blk_cell hgP 0
    have p1 := blk_cell hgP 1
    have p2 := blk_cell hgP 2
    have p3 := blk_cell hgP 3
    have p4 := blk_cell hgP 4
    have p5 := blk_cell hgP 5
    have pf0 := blk_frozen hgP 0
    have pf4 := blk_frozen hgP 4
    simp only [List.getElem?_cons_zero, List.getElem?_cons_succ] at p0 p1 p2 p3 p4 p5
    have HGP := Lib.hid hgP; have HZP := Lib.hid hzP; have HBP := Lib.hid hbP; have HOP := Lib.hid hoP; have HWP := Lib.hid hwP
    have hwl : w.heap.size ≤ w2.heap.size := Nat.le_trans hs1 hs2
    clear hW hgP hzP hbP hoP hwP hpown HPO
    by_cases h1 : a = [102, 111, 114]
    · by_cases h2 : c = [105, 110]
      · have hbl0 : b.length ≤ 1000000 := by have := HLE.out b (by simp); omega
        have H59 := Lib.hid (fun W => nameR_any b W hbl0)
        have q1 : ((bs a).toList == [102, 111, 114]) = true := by rw [eq_bs, beq_iff_eq]; exact h1
        have q2 : ((bs c).toList == [105, 110]) = true := by rw [eq_bs, beq_iff_eq]; exact h2
        clear hbl0
        cases h3 : nameB b with
        | true =>
          have hlt : w.heap.size < W.heap.size := blk_lt HZP.out
          have hgl : w2.heap.size < W.heap.size := blk_lt HGP.out
          have hbl : w.heap.size ≤ W.heap.size := HBP.out.size
          rw [h3] at H59
          have hr : R = some ⟨3, 0, [], P, b, 0⟩ := by rw [HR.out]; (try dsimp only); rw [if_pos ⟨h1, h2, h3⟩]; rfl
          have HRf := Lib.hid hr
          clear hr HR h1 h2 h3
          go_upto_region 19 with (go_at_call 59; refine (H59.out _).mono ?_; rintro e w4 ⟨rfl, hb4⟩)
          have hzq := blk_below HZP.out hb4 hlt
          have hgq := blk_below HGP.out hb4 hgl
          have hoq := own_below HOP.out hb4 (fun k hk => (HOP.out.lt k hk).2)
          have hbq : Below w.heap.size w w4 := HBP.out.trans (hb4.mono hbl)
          have hwq := own_below HWP.out hb4 (fun k hk => (HWP.out.lt k hk).2)
          clear wc0 wc1 wc2 wc3 p0 p1 p2 p3 p4 p5 pf0 pf4
          have wc1 := hwq.cellAt 1 (by decide)
          simp only [strs, List.map_cons, List.map_nil, List.getElem?_cons_zero, List.getElem?_cons_succ] at wc1
          have p0 := blk_cell hgq 0
          have p1 := blk_cell hgq 1
          have p2 := blk_cell hgq 2
          have p3 := blk_cell hgq 3
          have p4 := blk_cell hgq 4
          have p5 := blk_cell hgq 5
          have pf0 := blk_frozen hgq 0
          have pf4 := blk_frozen hgq 4
          simp only [List.getElem?_cons_zero, List.getElem?_cons_succ] at p0 p1 p2 p3 p4 p5
          have HGQ := Lib.hid hgq; have HZQ := Lib.hid hzq; have HBQ := Lib.hid hbq; have HOQ := Lib.hid hoq
          clear hzq hgq hoq hbq hwq hb4 H59
          go_wp2_with (refine wpList_store_row rfl 35 (.tmp 2) (.tmp 97) rfl w.heap.size #[_, _, _, _, _, _] rfl rfl 35 _ (far2 HZQ.out hne hne) (by kernel_rfl) rfl (by simp [Value.oneCell']) ?_)
          refine bodyPost_ret (v := .tuple #[.agg (pcells 3 (.slice PA P.length pc) b), .bool true]) (results_ct Tryd.results34 _ _ _ ⟨w.heap.size, 0, none⟩ _ rfl (load_res _ w.heap.size _ rfl ⟨_, (far2 HZQ.out hne hne)⟩)) rfl ?_
          exact ⟨⟨_, _, _, _, rfl, by rw [HRf.out]; exact ⟨rfl, rfl, rfl, own_base (own_setRow (own_set35 (own_set35 HOQ.out HGQ.out 0 _) (blk_set HGQ.out 0 _) 4 _) w.heap.size _ hG2) (Nat.le_of_lt hG2)⟩⟩, below_setRow (((HBQ.out.setCell hwl _).setCell hwl _)) (Nat.le_refl _) _⟩
        | false =>
          have hlt : w.heap.size < W.heap.size := blk_lt HZP.out
          have hgl : w2.heap.size < W.heap.size := blk_lt HGP.out
          have hbl : w.heap.size ≤ W.heap.size := HBP.out.size
          rw [h3] at H59
          have hr : R = none := by rw [HR.out]; (try dsimp only); rw [if_neg (fun h => absurd (h.2.2.symm.trans h3) (by decide))]
          have HRf := Lib.hid hr
          clear hr HR h1 h2 h3
          go_upto_region 22 with (go_at_call 59; refine (H59.out _).mono ?_; rintro e w4 ⟨rfl, hb4⟩)
          have hzq := blk_below HZP.out hb4 hlt
          have hgq := blk_below HGP.out hb4 hgl
          have hoq := own_below HOP.out hb4 (fun k hk => (HOP.out.lt k hk).2)
          have hbq : Below w.heap.size w w4 := HBP.out.trans (hb4.mono hbl)
          have hwq := own_below HWP.out hb4 (fun k hk => (HWP.out.lt k hk).2)
          clear wc0 wc1 wc2 wc3 p0 p1 p2 p3 p4 p5 pf0 pf4
          have wc1 := hwq.cellAt 1 (by decide)
          simp only [strs, List.map_cons, List.map_nil, List.getElem?_cons_zero, List.getElem?_cons_succ] at wc1
          have p0 := blk_cell hgq 0
          have p1 := blk_cell hgq 1
          have p2 := blk_cell hgq 2
          have p3 := blk_cell hgq 3
          have p4 := blk_cell hgq 4
          have p5 := blk_cell hgq 5
          have pf0 := blk_frozen hgq 0
          have pf4 := blk_frozen hgq 4
          simp only [List.getElem?_cons_zero, List.getElem?_cons_succ] at p0 p1 p2 p3 p4 p5
          have HGQ := Lib.hid hgq; have HZQ := Lib.hid hzq; have HBQ := Lib.hid hbq; have HOQ := Lib.hid hoq
          clear hzq hgq hoq hbq hwq hb4 H59
          go_wp2_with (refine wpList_store_row rfl 35 (.tmp 2) (.tmp 98) rfl w.heap.size #[_, _, _, _, _, _] rfl rfl 35 _ HZQ.out (by kernel_rfl) rfl (by simp [Value.oneCell']) ?_)
          refine bodyPost_ret (v := .tuple #[.agg (pcells 1 (.slice PA P.length pc) []), .bool false]) (results_ct Tryd.results34 _ _ _ ⟨w.heap.size, 0, none⟩ _ rfl (load_res _ w.heap.size _ rfl ⟨_, HZQ.out⟩)) rfl ?_
          exact ⟨⟨_, _, _, _, rfl, by rw [HRf.out]; exact ⟨rfl, _, _, _, rfl⟩⟩, below_setRow (HBQ.out) (Nat.le_refl _) _⟩
      · have q1 : ((bs a).toList == [102, 111, 114]) = true := by rw [eq_bs, beq_iff_eq]; exact h1
        have q2 : ((bs c).toList == [105, 110]) = false := by rw [eq_bs, beq_eq_false_iff_ne]; exact h2
        have hr : R = none := by rw [HR.out]; (try dsimp only); rw [if_neg (fun h => h2 h.2.1)]
        have HRf := Lib.hid hr
        clear hr HR
        clear h1 h2
        go_wp2_with (first | (refine wpList_store_row rfl 35 (.tmp 2) (.tmp 98) rfl w.heap.size #[_, _, _, _, _, _] rfl rfl 35 _ HZP.out (by kernel_rfl) rfl (by simp [Value.oneCell']) ?_))
        refine bodyPost_ret (v := .tuple #[.agg (pcells 1 (.slice PA P.length pc) []), .bool false]) (results_ct Tryd.results34 _ _ _ ⟨w.heap.size, 0, none⟩ _ rfl (load_res _ w.heap.size _ rfl ⟨_, HZP.out⟩)) rfl ?_
        exact ⟨⟨_, _, _, _, rfl, by rw [HRf.out]; exact ⟨rfl, _, _, _, rfl⟩⟩, below_setRow (HBP.out) (Nat.le_refl _) _⟩
    · have q1 : ((bs a).toList == [102, 111, 114]) = false := by rw [eq_bs, beq_eq_false_iff_ne]; exact h1
      have hr : R = none := by rw [HR.out]; (try dsimp only); rw [if_neg (fun h => h1 h.1)]
      have HRf := Lib.hid hr
      clear hr HR
      clear h1
      go_wp2_with (first | (refine wpList_store_row rfl 35 (.tmp 2) (.tmp 98) rfl w.heap.size #[_, _, _, _, _, _] rfl rfl 35 _ HZP.out (by kernel_rfl) rfl (by simp [Value.oneCell']) ?_))
      refine bodyPost_ret (v := .tuple #[.agg (pcells 1 (.slice PA P.length pc) []), .bool false]) (results_ct Tryd.results34 _ _ _ ⟨w.heap.size, 0, none⟩ _ rfl (load_res _ w.heap.size _ rfl ⟨_, HZP.out⟩)) rfl ?_
      exact ⟨⟨_, _, _, _, rfl, by rw [HRf.out]; exact ⟨rfl, _, _, _, rfl⟩⟩, below_setRow (HBP.out) (Nat.le_refl _) _⟩
end Go.Proofs.YthilkpjdfjjikaaDoor
