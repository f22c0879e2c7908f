/-
  Texts of this seat, joined: Sam, Lit. Each says what it proves, ahead of itself.
-/
import Derived.BigQuiet
import Derived.RegionTactic
import Derived.BigRegion
import Derived.Test.YthilkpjdfjjikaaDoorRtnM
import Derived.Test.YthilkpjdfjjikaaDoorRlx
set_option linter.unusedVariables false
set_option linter.unusedSimpArgs false
section
/-
  The document's comparison of two lists of pieces, where they are the same.
-/
namespace Go.Proofs.YthilkpjdfjjikaaDoor
open Go.RowKit

/-- A piece's cells, its path's slice given. -/
def pcl (p : Piece) (v : Value) : List Value := [.int .i64 ((p.kind : Nat) : Int), .int .i64 ((p.pos : Nat) : Int), .string (bs p.text), v, .string (bs p.name), .int .i64 ((p.place : Nat) : Int)]
theorem PRd.cells {w : World} {B : Nat} {A : Option Addr} {qs : List (Piece × Value)} {ps : List Piece} (h : PRd w B A qs) (e : qs.map (·.1) = ps) (j : Nat) (hj : j < ps.length) :
    ∃ b off A' c, A = some ⟨b, off, none⟩ ∧ b < B ∧ (∀ k, k < 6 → w.cell? ⟨b, off + j * 6 + k, none⟩ = (pcl (ps.getD j ⟨0, 0, [], [], [], 0⟩) (.slice A' (ps.getD j ⟨0, 0, [], [], [], 0⟩).path.length c))[k]?) ∧
      (ps.getD j ⟨0, 0, [], [], [], 0⟩).path.length ≤ c ∧ Rd w B 1 A' (ps.getD j ⟨0, 0, [], [], [], 0⟩).path.length (strs (ps.getD j ⟨0, 0, [], [], [], 0⟩).path) := by
  have hl : qs.length = ps.length := by rw [← e, List.length_map]
  have hjq : j < qs.length := by omega
  obtain ⟨b, off, hA, hb, hc⟩ := h.at_ (by omega)
  obtain ⟨A', c, h1, h2, h3⟩ := h.path (qs[j]) (List.getElem_mem hjq)
  have hq := map_at e j hjq
  rw [hq] at h1 h2 h3
  refine ⟨b, off, A', c, hA, hb, fun k hk => ?_, h2, h3⟩
  rw [hc j k hjq hk]
  unfold pcell pcl
  rw [hq, h1]
set_option maxHeartbeats 8000000 in
set_option maxRecDepth 100000 in
theorem sameR_any (ps : List Piece) (qs qs' : List (Piece × Value)) (A A' : Option Addr) (c c' B : Nat) (w : World) (h : PRd w B A qs) (h' : PRd w B A' qs') (e : qs.map (·.1) = ps) (e' : qs'.map (·.1) = ps) (hB : B ≤ w.heap.size) (hn : ps.length ≤ 1000000) (hc : ps.length ≤ c) (hc' : ps.length ≤ c') (hpth : ∀ p ∈ ps, p.path.length ≤ 1000000) :
    Calls Tryd.prog 14 #[.slice A ps.length c, .slice A' ps.length c'] w fun e w' => e = .returned (.bool true) ∧ Below w.heap.size w w' := by
  have HPT := Lib.hid hpth; clear hpth
  have H := Lib.hid h; have H' := Lib.hid h'; have E := Lib.hid e; have E' := Lib.hid e'
  clear h h' e e'
  obtain ⟨n, hne⟩ : ∃ n, n = ps.length := ⟨_, rfl⟩
  rw [← hne] at hn hc hc' ⊢
  have Hn := Lib.hid hne; clear hne
  go_enter Tryd.func14, Tryd.ntmps14
  go_wp2_with fail
  go_loopw [16] (fun i wr => ∃ j : Nat, i = .int .i64 (j : Int) ∧ j ≤ n ∧ Below w.heap.size w wr) (fun i _ => n - (intOf i).toNat)
  case atStart => exact ⟨0, rfl, Nat.zero_le _, Below.refl _ _⟩
  case round =>
    obtain ⟨j, rfl, hj, hbr⟩ := hrel
    have hbs := hbr.size
    by_cases hjn : j < n
    · have tj : decide ((j : Int) < (n : Int)) = true := by rw [decide_eq_true_eq]; omega
      obtain ⟨b, off, PA, pc, rfl, hb, hcell, hpl, hrd⟩ := (H.out.keep (hbr.mono hB)).cells E.out j (by rw [← Hn.out]; exact hjn)
      have e0 := hcell 0 (by decide); have e1 := hcell 1 (by decide); have e2 := hcell 2 (by decide); have e3 := hcell 3 (by decide); have e4 := hcell 4 (by decide); have e5 := hcell 5 (by decide)
      have HBR := Lib.hid hbr
      have hpb : (ps.getD j ⟨0, 0, [], [], [], 0⟩).path.length ≤ 1000000 := HPT.out _ (by rw [List.getD_eq_getElem?_getD, List.getElem?_eq_getElem (by rw [← Hn.out]; exact hjn)]; exact List.getElem_mem _)
      obtain ⟨p, hp⟩ : ∃ p, p = ps.getD j ⟨0, 0, [], [], [], 0⟩ := ⟨_, rfl⟩
      have hcells' := fun W (hb : Below B w W) => (H'.out.keep hb).cells E'.out j (by rw [← Hn.out]; exact hjn)
      have hcells := fun W (hb : Below B w W) => (H.out.keep hb).cells E.out j (by rw [← Hn.out]; exact hjn)
      simp only [← hp] at hcells' hcells e0 e1 e2 e3 e4 e5 hrd hpb
      clear hp
      have HC := Lib.hid hcells; have HC' := Lib.hid hcells'
      simp only [pcl, List.getElem?_cons_zero, List.getElem?_cons_succ, Nat.add_zero] at e0 e1 e2 e3 e4 e5
      have HRD := Lib.hid hrd
      clear hcell hcells hcells' hpl hbr hrd
      go_upto_region 6 with fail
      have hP1 := blk_new wr 35 #[.int .i64 ((p.kind : Nat) : Int), .int .i64 ((p.pos : Nat) : Int), .string (bs p.text), .slice PA p.path.length pc, .string (bs p.name), .int .i64 ((p.place : Nat) : Int)]
      have hb1 : Below w.heap.size w (wr.alloc (.cells #[.int .i64 ((p.kind : Nat) : Int), .int .i64 ((p.pos : Nat) : Int), .string (bs p.text), .slice PA p.path.length pc, .string (bs p.name), .int .i64 ((p.place : Nat) : Int)] 35)) := HBR.out.alloc hbs _
      obtain ⟨W1, hW1⟩ : ∃ W1, W1 = wr.alloc (.cells #[.int .i64 ((p.kind : Nat) : Int), .int .i64 ((p.pos : Nat) : Int), .string (bs p.text), .slice PA p.path.length pc, .string (bs p.name), .int .i64 ((p.place : Nat) : Int)] 35) := ⟨_, rfl⟩
      rw [← hW1] at hP1 hb1 ⊢
      obtain ⟨b2, off2, PA2, pc2, rfl, hb2, hcell2, hpl2, hrd2⟩ := HC'.out W1 (hb1.mono hB)
      have HRD2 := Lib.hid hrd2
      have hbr1 : Below wr.heap.size wr W1 := by rw [hW1]; exact (Below.refl _ wr).alloc (Nat.le_refl _) _
      have HBR1 := Lib.hid hbr1
      clear e0 e1 e2 e3 e4 e5 hW1
      have e0 := hcell2 0 (by decide); have e1 := hcell2 1 (by decide); have e2 := hcell2 2 (by decide); have e3 := hcell2 3 (by decide); have e4 := hcell2 4 (by decide); have e5 := hcell2 5 (by decide)
      simp only [pcl, List.getElem?_cons_zero, List.getElem?_cons_succ, Nat.add_zero] at e0 e1 e2 e3 e4 e5
      have HP1 := Lib.hid hP1; have HB1 := Lib.hid hb1
      have hbs1 := hb1.size
      clear hP1 hb1 hcell2 hrd2 hbr1
      go_upto_region 7 with fail
      have hP2 := blk_new W1 35 #[.int .i64 ((p.kind : Nat) : Int), .int .i64 ((p.pos : Nat) : Int), .string (bs p.text), .slice PA2 p.path.length pc2, .string (bs p.name), .int .i64 ((p.place : Nat) : Int)]
      have hP1 : Blk (W1.alloc (.cells #[.int .i64 ((p.kind : Nat) : Int), .int .i64 ((p.pos : Nat) : Int), .string (bs p.text), .slice PA2 p.path.length pc2, .string (bs p.name), .int .i64 ((p.place : Nat) : Int)] 35)) wr.heap.size 35 _ := blk_alloc HP1.out _
      have hbb : Below w.heap.size w (W1.alloc (.cells #[.int .i64 ((p.kind : Nat) : Int), .int .i64 ((p.pos : Nat) : Int), .string (bs p.text), .slice PA2 p.path.length pc2, .string (bs p.name), .int .i64 ((p.place : Nat) : Int)] 35)) := HB1.out.alloc hbs1 _
      obtain ⟨W2, hW2⟩ : ∃ W2, W2 = W1.alloc (.cells #[.int .i64 ((p.kind : Nat) : Int), .int .i64 ((p.pos : Nat) : Int), .string (bs p.text), .slice PA2 p.path.length pc2, .string (bs p.name), .int .i64 ((p.place : Nat) : Int)] 35) := ⟨_, rfl⟩
      have hb12 : Below W1.heap.size W1 W2 := by rw [hW2]; exact (Below.refl _ W1).alloc (Nat.le_refl _) _
      have HB12 := Lib.hid hb12
      rw [← hW2] at hP1 hP2 hbb ⊢
      clear e0 e1 e2 e3 e4 e5 hW2 hb12
      have p0 := blk_cell hP1 0; have p1 := blk_cell hP1 1; have p2 := blk_cell hP1 2; have p3 := blk_cell hP1 3; have p4 := blk_cell hP1 4; have p5 := blk_cell hP1 5
      have r0 := blk_cell hP2 0; have r1 := blk_cell hP2 1; have r2 := blk_cell hP2 2; have r3 := blk_cell hP2 3; have r4 := blk_cell hP2 4; have r5 := blk_cell hP2 5
      simp only [List.getElem?_cons_zero, List.getElem?_cons_succ] at p0 p1 p2 p3 p4 p5 r0 r1 r2 r3 r4 r5
      have HP1 := Lib.hid hP1; have HP2 := Lib.hid hP2; have HBB := Lib.hid hbb
      have hbs2 := hbb.size
      clear hP1 hP2 hbb
      have qt : ((bs p.text).toList != (bs p.text).toList) = false := by simp
      have qn : ((bs p.name).toList != (bs p.name).toList) = false := by simp
      go_wp2_with fail
      have hrdA := (HRD.out.keep (HBR1.out.mono (Nat.le_trans hB hbs))).keep (HB12.out.mono (Nat.le_trans hB hbs1))
      have hrdB := HRD2.out.keep (HB12.out.mono (Nat.le_trans hB hbs1))
      have HA := Lib.hid hrdA; have HB2 := Lib.hid hrdB
      clear hrdA hrdB p0 p1 p2 p4 p5 r0 r1 r2 r4 r5 p3 r3
      obtain ⟨m, hm⟩ : ∃ m, m = p.path.length := ⟨_, rfl⟩
      rw [← hm] at HP1 HP2 HA HB2 hpl2 hpb ⊢
      have HM := Lib.hid hm
      clear hm
      go_loopw [70] (fun i wx => ∃ k : Nat, i = .int .i64 (k : Int) ∧ k ≤ m ∧ Below W2.heap.size W2 wx) (fun i _ => m - (intOf i).toNat)
      case atStart => exact ⟨0, rfl, Nat.zero_le _, Below.refl _ _⟩
      case round =>
        obtain ⟨k, rfl, hk, hbx⟩ := hrel
        have HBX := Lib.hid hbx
        have hbxs := hbx.size
        have hq1 := blk_below HP1.out hbx (blk_lt HP1.out)
        have hq2 := blk_below HP2.out hbx (blk_lt HP2.out)
        have p3 := blk_cell hq1 3; have r3 := blk_cell hq2 3
        simp only [List.getElem?_cons_zero, List.getElem?_cons_succ] at p3 r3
        clear hbx hq1 hq2
        by_cases hkm : k < m
        · have tk : decide ((k : Int) < (m : Int)) = true := by rw [decide_eq_true_eq]; omega
          obtain ⟨b3, o3, rfl, _, hc3⟩ := (HA.out.keep (HBX.out.mono (Nat.le_trans hB hbs2))).at_ (by omega)
          obtain ⟨b4, o4, rfl, _, hc4⟩ := (HB2.out.keep (HBX.out.mono (Nat.le_trans hB hbs2))).at_ (by omega)
          have s3 := hc3 k (by simpa using hkm)
          have s4 := hc4 k (by simpa using hkm)
          rw [strs_at _ k (by rw [← HM.out]; exact hkm)] at s3 s4
          generalize bs (p.path.getD k []) = X at s3 s4
          have te : (X.toList != X.toList) = false := by simp
          have te2 : (X.toList == X.toList) = true := beq_self_eq_true _
          clear hc3 hc4
          go_upto_region 12 with fail
          go_quiet (fail)
          go_wp2_with fail
          refine ⟨⟨k + 1, by go_num, by omega, ?_⟩, by simp [intOf]; omega⟩
          first | exact HBX.out | exact HBX.out.trans (drew_below _ _ _)
        · obtain rfl : k = m := by omega
          have tk : decide ((k : Int) < (k : Int)) = false := by rw [decide_eq_false_iff_not]; omega
          go_wp2_with fail
          refine ⟨⟨j + 1, by go_num, by omega, HBB.out.trans (HBX.out.mono hbs2)⟩, by simp [intOf]; omega⟩
    · obtain rfl : j = n := by omega
      have tj : decide ((j : Int) < (j : Int)) = false := by rw [decide_eq_false_iff_not]; omega
      go_wp2_with fail
      go_ret
      exact ⟨rfl, hbr⟩
end Go.Proofs.YthilkpjdfjjikaaDoor
end
section
/-
  law17.LexLiterals, walked.
-/
namespace Go.Proofs.YthilkpjdfjjikaaDoor
open Go.RowKit

theorem tag_path (w : Bs) (p : Piece) (h : tagL w = some p) : p.path.length ≤ 5 := by
  have hp : ∀ (b : Bs) (l : List Bs), pathL b = some l → l.length ≤ 5 := by
    intro b l h
    unfold pathL at h
    split at h
    · cases h
    · rename_i hn
      injection h with h
      rw [← h]
      by_cases h5 : 5 < (splitDot b).length
      · exact absurd (.inl h5) hn
      · omega
  unfold tagL at h
  split at h
  · split at h
    · injection h with h; rw [← h]; decide
    · split at h
      · injection h with h; rw [← h]; decide
      · obtain ⟨l, hl, rfl⟩ := Option.map_eq_some_iff.1 h; exact hp _ l hl
  · split at h
    · obtain ⟨l, hl, rfl⟩ := Option.map_eq_some_iff.1 h; exact hp _ l hl
    · split at h
      · obtain ⟨l, hl, rfl⟩ := Option.map_eq_some_iff.1 h; exact hp _ l hl
      · cases h
  · split at h
    · obtain ⟨l, hl, rfl⟩ := Option.map_eq_some_iff.1 h; exact hp _ l hl
    · cases h
  · cases h
def Small (n : Nat) (r : LexR) : Prop := r.out.length ≤ n ∧ (∀ p ∈ r.out, p.path.length ≤ 5) ∧ r.pos ≤ n ∧ r.err ≤ 1000
theorem end_small (n : Nat) (m : Mach) (out : List Piece) (h : out.length ≤ n) (hp : ∀ p ∈ out, p.path.length ≤ 5) : Small n (lexEnd n m out) := by
  unfold lexEnd
  split
  · exact ⟨h, hp, Nat.zero_le _, by show 0 ≤ 1000; decide⟩
  · exact ⟨Nat.zero_le _, fun p hp => (by cases hp), Nat.le_refl _, by show 171 ≤ 1000; decide⟩
theorem litP_small (k : Nat) (lit : Bs) (out : List Piece) (h : out.length ≤ k) (hp : ∀ p ∈ out, p.path.length ≤ 5) : (litP k lit out).length ≤ k + lit.length ∧ ∀ p ∈ litP k lit out, p.path.length ≤ 5 := by
  unfold litP
  split
  · exact ⟨by omega, hp⟩
  · rename_i hne
    have : 0 < lit.length := List.length_pos_iff.2 hne
    refine ⟨by rw [List.length_append, List.length_singleton]; omega, fun p h' => ?_⟩
    rcases List.mem_append.1 h' with h' | h'
    · exact hp p h'
    · rw [List.mem_singleton.1 h']; exact Nat.zero_le _
theorem lexFrom_small (s : Bs) : ∀ (F k : Nat) (m : Mach) (out : List Piece), out.length ≤ k → (∀ p ∈ out, p.path.length ≤ 5) → k ≤ s.length → Small s.length (lexFrom s F k m out)
  | 0, k, m, out, h, hp, hk => end_small _ _ _ (by omega) hp
  | F + 1, k, m, out, h, hp, hk => by
    by_cases hkn : k < s.length
    · obtain ⟨lit, rest, more, hcut⟩ : ∃ lit rest more, Lib.cut (s.drop k) [123, 123] = (lit, rest, more) := ⟨_, _, _, rfl⟩
      obtain ⟨words, rest2, whole, hcut2⟩ : ∃ words rest2 whole, Lib.cut rest [125, 125] = (words, rest2, whole) := ⟨_, _, _, rfl⟩
      have hcr := cut_room (s.drop k) [123, 123]
      have hcr2 := cut_room rest [125, 125]
      rw [hcut, List.length_drop] at hcr
      rw [hcut2] at hcr2
      dsimp only at hcr hcr2
      rw [lexFrom_step s F k m out hkn lit rest more hcut words rest2 whole hcut2]
      obtain ⟨hl1, hl2⟩ := litP_small k lit out h hp
      by_cases hm : more = false
      · rw [if_pos hm]
        exact end_small _ _ _ (by omega) hl2
      · rw [if_neg hm]
        have hm : more = true := by simpa using hm
        rw [hm, if_pos rfl, show ([123, 123] : Bs).length = 2 from rfl] at hcr
        have hno : ∀ q, q ≤ 1000 → Small s.length ⟨[], k + lit.length, q⟩ := fun q hq => ⟨Nat.zero_le _, fun p hp => (by cases hp), by show k + lit.length ≤ _; omega, hq⟩
        cases ht : tagL words with
        | none => exact hno 170 (by decide)
        | some p =>
          dsimp only
          by_cases hw : whole = false
          · rw [if_pos hw]; exact hno 170 (by decide)
          · rw [if_neg hw]
            have hw : whole = true := by simpa using hw
            rw [hw, if_pos rfl, show ([125, 125] : Bs).length = 2 from rfl] at hcr2
            split
            · exact hno 171 (by decide)
            · refine lexFrom_small s F _ _ _ (by rw [List.length_append, List.length_singleton]; omega) ?_ (by omega)
              intro q hq
              rcases List.mem_append.1 hq with hq | hq
              · exact hl2 q hq
              · rw [List.mem_singleton.1 hq]; exact tag_path words p ht
    · rw [lexFrom, if_neg hkn]
      exact end_small _ _ _ (by omega) hp
theorem lexL_small (s : Bs) (hs : s.length ≤ 20000) : Small 20000 (lexL s) := by
  unfold lexL
  rw [if_neg (by omega)]
  cases hb : badL s with
  | some i =>
    have := badFrom_le _ _ _ _ hb
    exact ⟨Nat.zero_le _, fun p hp => (by cases hp), by show i ≤ _; omega, by show 20 ≤ 1000; decide⟩
  | none =>
    obtain ⟨h1, h2, h3, h4⟩ := lexFrom_small s (s.length + 1) 0 mach0 [] (Nat.zero_le _) (fun p hp => (by cases hp)) (Nat.zero_le _)
    exact ⟨by show (lexFrom s (s.length + 1) 0 mach0 []).out.length ≤ _; omega, h2, by show (lexFrom s (s.length + 1) 0 mach0 []).pos ≤ _; omega, h4⟩
/-- Two lists of the same pieces are the same. -/
theorem same_any (v v' : Value) (B B' : Nat) (ps : List Piece) (w : World) (h : PRow w B v ps) (h' : PRow w B' v' ps) (hn : ps.length ≤ 1000000) (hpth : ∀ p ∈ ps, p.path.length ≤ 1000000) :
    Calls Tryd.prog 14 #[v, v'] w fun e w' => e = .returned (.bool true) ∧ Below w.heap.size w w' := by
  obtain ⟨A, c, qs, rfl, hc, e, hr⟩ := h.read
  obtain ⟨A', c', qs', rfl, hc', e', hr'⟩ := h'.read
  exact sameR_any ps qs qs' A A' c c' w.heap.size w hr hr' e e' (Nat.le_refl _) hn hc hc' hpth
def tagX : Bs := [123, 123, 120, 125, 125]
set_option maxHeartbeats 4000000 in
set_option maxRecDepth 100000 in
theorem lit_any (s c : Bs) (w : World) (hT : Tabs w) (hs : s.length ≤ maxLen) (hc : c.length ≤ maxLen) :
    Calls Tryd.prog 3 #[.string (bs s), .string (bs c)] w fun e w' => e = .returned (.bool true) ∧ Below w.heap.size w w' := by
  unfold maxLen at hs hc
  have hz : (bs s).size = s.length := bs_size s
  have hz2 : (bs c).size = c.length := bs_size c
  have HF := Lib.hid (first_any w hT)
  by_cases h1 : 1000 < max s.length c.length
  · obtain ⟨S, hS⟩ : ∃ S, S = bs s := ⟨_, rfl⟩
    obtain ⟨C, hC⟩ : ∃ C, C = bs c := ⟨_, rfl⟩
    rw [← hS] at hz ⊢
    rw [← hC] at hz2 ⊢
    clear hS hC
    generalize s.length = n at *
    generalize c.length = m at *
    have t1 : decide (1000 < max (n : Int) (m : Int)) = true := by rw [decide_eq_true_eq]; omega
    go_enter Tryd.func3, Tryd.ntmps3
    go_wp2_with (go_at_call 11; refine HF.out.mono ?_; rintro e w1 ⟨rfl, b1⟩)
    go_ret
    exact ⟨rfl, b1⟩
  · obtain ⟨sm1, sm2, sm3, sm4⟩ := lexL_small (s ++ tagX ++ c) (by rw [List.length_append, List.length_append, show tagX.length = 5 from rfl]; omega)
    have h12 := fun W hW => lex_any (s ++ tagX ++ c) W hW
    have h13 := fun W => lexR_any (s ++ tagX ++ c) W (by rw [List.length_append, List.length_append, show tagX.length = 5 from rfl]; omega)
    have hcat : bs (s ++ tagX ++ c) = bs s ++ ⟨#[123, 123, 120, 125, 125]⟩ ++ bs c := by
      rw [← bs_cat, ← bs_cat]; rfl
    rw [hcat] at h12 h13
    obtain ⟨R, hR⟩ : ∃ R, R = lexL (s ++ tagX ++ c) := ⟨_, rfl⟩
    rw [← hR] at sm1 sm2 sm3 sm4
    simp only [← hR] at h12 h13
    have HS2 := Lib.hid sm2
    clear hR hcat sm2
    obtain ⟨S, hS⟩ : ∃ S, S = bs s := ⟨_, rfl⟩
    obtain ⟨C, hC⟩ : ∃ C, C = bs c := ⟨_, rfl⟩
    rw [← hS] at hz h12 h13 ⊢
    rw [← hC] at hz2 h12 h13 ⊢
    clear hS hC
    generalize s.length = n at *
    generalize c.length = m at *
    obtain ⟨out, pos, err⟩ := R
    dsimp only at sm1 sm3 sm4 HS2 h12 h13
    have H12 := Lib.hid h12; have H13 := Lib.hid h13; have HT := Lib.hid hT
    clear h12 h13 hT
    have t1 : decide (1000 < max (n : Int) (m : Int)) = false := by rw [decide_eq_false_iff_not]; omega
    go_enter Tryd.func3, Tryd.ntmps3
    go_wp2_with (go_at_call 11; refine HF.out.mono ?_; rintro e w1 ⟨rfl, b1⟩)
    refine (H12.out _ (HT.out.below b1)).mono ?_
    rintro e w2 ⟨v, rfl, hp, b2⟩
    have HP := Lib.hid hp
    clear hp
    go_wp2_with (go_at_call 13; refine (H13.out _).mono ?_; rintro e w3 ⟨v', rfl, hp', b3⟩)
    have H14 := Lib.hid (same_any v v' w1.heap.size w2.heap.size out w3 (HP.out.below b3) hp' (by omega) (fun p hp => by have := HS2.out p hp; omega))
    have hs1 := b1.size
    have hs2 := b2.size
    have hs3 := b3.size
    have bb : Below w.heap.size w w3 := (b1.trans (b2.mono hs1)).trans (b3.mono (by omega))
    go_wp2_with (go_at_call 14; refine H14.out.mono ?_; rintro e w4 ⟨rfl, b4⟩)
    go_ret
    exact ⟨rfl, bb.trans (b4.mono (by omega))⟩
end Go.Proofs.YthilkpjdfjjikaaDoor
end
