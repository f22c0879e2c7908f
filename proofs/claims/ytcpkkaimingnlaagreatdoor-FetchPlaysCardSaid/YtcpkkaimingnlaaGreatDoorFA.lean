/-
  Texts of this seat, joined: Fmm, Fop, Fta, Fho, Fse, Fcl, Fhs, Fws. Each says what it proves, ahead of itself.
-/
import Derived.Test.YtcpkkaimingnlaaGreatDoorMG
import Derived.LaidEqlPtr
import Derived.Lib.ConvBytes
import Derived.Handy
import Derived.Test.YtcpkkaimingnlaaGreatDoorMI
import Derived.Outline
set_option linter.unusedVariables false
set_option linter.unusedSimpArgs false
section
namespace Go.Proofs.YtcpkkaimingnlaaGreatDoor
open Go.RowKit

/-- World w' is world w but for the blocks from lo to hi, and new ones. -/
structure Only (lo hi : Nat) (w w' : World) : Prop where
  os : w'.os = w.os
  tape : w'.tape = w.tape
  output : w'.output = w.output
  size : w.heap.size ≤ w'.heap.size
  block : ∀ k, k < w.heap.size → ¬ (lo ≤ k ∧ k < hi) → w'.heap[k]? = w.heap[k]?
section
variable {lo hi : Nat} {w w1 w2 : World}
theorem Only.refl (lo hi : Nat) (w : World) : Only lo hi w w := ⟨rfl, rfl, rfl, Nat.le_refl _, fun _ _ _ => rfl⟩
theorem Only.trans (h : Only lo hi w w1) (h2 : Only lo hi w1 w2) : Only lo hi w w2 :=
  ⟨h2.os.trans h.os, h2.tape.trans h.tape, h2.output.trans h.output, Nat.le_trans h.size h2.size, fun k hk hn => (h2.block k (Nat.lt_of_lt_of_le hk h.size) hn).trans (h.block k hk hn)⟩
theorem Only.of_below (h : Below w.heap.size w w1) (lo hi : Nat) : Only lo hi w w1 := ⟨h.os, h.tape, h.output, h.size, fun k hk _ => h.block k hk⟩
theorem Only.call (h : Only lo hi w w1) (hb : Below w1.heap.size w1 w2) : Only lo hi w w2 := h.trans (Only.of_below hb lo hi)
theorem Turned.base {g : Nat} (h : Turned w w1 g) : Below 0 w w1 := h.below 0 w (Nat.zero_le _) (Below.refl _ _)
theorem Only.of_turned {g : Nat} (h : Turned w w1 g) (h1 : lo ≤ g) (h2 : g < hi) : Only lo hi w w1 :=
  ⟨h.base.os, h.base.tape, h.base.output, Nat.le_of_eq h.size.symm, fun k _ hn => h.far k (by rintro rfl; exact hn ⟨h1, h2⟩)⟩
theorem Only.turn {g : Nat} (h : Only lo hi w w1) (ht : Turned w1 w2 g) (h1 : lo ≤ g) (h2 : g < hi) : Only lo hi w w2 := h.trans (Only.of_turned ht h1 h2)
theorem Only.drew (h : Only lo hi w w1) : Only lo hi w w1.drew := ⟨h.os, h.tape, h.output, h.size, h.block⟩
theorem Only.drewN (h : Only lo hi w w1) (n : Nat) : Only lo hi w (w1.drewN n) := ⟨h.os, h.tape, h.output, h.size, h.block⟩
theorem Only.alloc (h : Only lo hi w w1) (o : Obj) : Only lo hi w (w1.alloc o) := h.call (below_one w1 o)
theorem Only.below {B : Nat} {w0 : World} (h : Only lo hi w w1) (hB : B ≤ lo) (hs : B ≤ w.heap.size) (h0 : Below B w0 w) : Below B w0 w1 :=
  ⟨h.os.trans h0.os, h.tape.trans h0.tape, h.output.trans h0.output, Nat.le_trans h0.size h.size, fun k hk => (h.block k (by omega) (by omega)).trans (h0.block k hk)⟩
theorem blk_only {g : Nat} {t : TypeId} {cs : List Value} (hb : Blk w g t cs) (h : Only lo hi w w1) (hn : g < lo ∨ hi ≤ g) : Blk w1 g t cs :=
  (h.block g (blk_lt hb) (by omega)).trans hb
theorem heap_only {g : Nat} (h : Only lo hi w w1) (hg : g < w.heap.size) (hn : g < lo ∨ hi ≤ g) : w1.heap[g]? = w.heap[g]? := h.block g hg (by omega)
theorem Only.more {lo2 hi2 : Nat} (h : Only lo hi w w1) (h1 : lo2 ≤ lo) (h2 : hi ≤ hi2) : Only lo2 hi2 w w1 := ⟨h.os, h.tape, h.output, h.size, fun k hk hn => h.block k hk (by omega)⟩
end

/-! ### A poller -/
structure Src where
  own : Bs
  beside : Bs
  due : Int
  fails : Int
  etag : Bs
  mod : Bs
  out : Bool
  hops : Nat
  lasting : Bool
deriving Inhabited
def scs (s : Src) : List Value := [.string (bs s.own), .string (bs s.beside), .int .i64 s.due, .int .i64 s.fails, .string (bs s.etag), .string (bs s.mod), .bool s.out, .int .i64 ((s.hops : Nat) : Int), .bool s.lasting]
def ptr (g : Nat) : Value := .pointer (some ⟨g, 0, none⟩)
/-- A poller at block g, its list of sources at block gr, its sources at the blocks gs. -/
structure Pol (W : World) (lo hi g : Nat) (A : Option Addr) (cap : Nat) (gs : List Nat) (per now : Int) (ss : List Src) : Prop where
  head : Blk W g 87 [.int .i64 per, .int .i64 now, .slice A gs.length cap]
  row : ∀ i, i < gs.length → ∃ gr, A = some ⟨gr, 0, none⟩ ∧ lo ≤ gr ∧ gr < hi ∧ W.cell? ⟨gr, i, none⟩ = some (ptr (gs.getD i 0))
  apart : ∀ gr, A = some ⟨gr, 0, none⟩ → gr ≠ g ∧ gr ∉ gs
  each : ∀ i, i < gs.length → Blk W (gs.getD i 0) 90 (scs (ss.getD i default))
  len : gs.length = ss.length
  ndp : gs.Nodup
  ng : g ∉ gs
  glo : lo ≤ g ∧ g < hi
  slo : ∀ x ∈ gs, lo ≤ x ∧ x < hi
  hB : hi ≤ W.heap.size
  hcap : gs.length ≤ cap ∧ cap ≤ 9223372036854775807
section
variable {W W1 : World} {lo hi g : Nat} {A : Option Addr} {cap : Nat} {gs : List Nat} {per now : Int} {ss : List Src}
theorem mem_getD {l : List Nat} {i : Nat} (h : i < l.length) : l.getD i 0 ∈ l := by simp [h]
theorem getD_ne {l : List Nat} {i j : Nat} (hl : l.Nodup) (hi : i < l.length) (hj : j < l.length) (hij : i ≠ j) : l.getD i 0 ≠ l.getD j 0 := by
  have e1 : l.getD i 0 = l[i] := by simp [hi]
  have e2 : l.getD j 0 = l[j] := by simp [hj]
  rw [e1, e2]
  intro h
  exact hij ((List.getElem_inj hl).1 h)
/-- Whatever is elsewhere may turn. -/
theorem Pol.keep {lo2 hi2 : Nat} (h : Pol W lo hi g A cap gs per now ss) (ho : Only lo2 hi2 W W1) (hd : hi ≤ lo2 ∨ hi2 ≤ lo) : Pol W1 lo hi g A cap gs per now ss := by
  refine ⟨blk_only h.head ho (by have := h.glo; omega), fun i hi' => ?_, h.apart, fun i hi' => blk_only (h.each i hi') ho (by have := h.slo _ (mem_getD hi'); omega), h.len, h.ndp, h.ng, h.glo, h.slo, Nat.le_trans h.hB ho.size, h.hcap⟩
  obtain ⟨gr, hA, h1, h2, hc⟩ := h.row i hi'
  exact ⟨gr, hA, h1, h2, (World.cell?_of_block (a := ⟨gr, i, none⟩) (ho.block gr (Nat.lt_of_lt_of_le h2 h.hB) (by omega))).trans hc⟩
theorem Pol.call (h : Pol W lo hi g A cap gs per now ss) (hb : Below W.heap.size W W1) : Pol W1 lo hi g A cap gs per now ss :=
  h.keep (Only.of_below hb hi hi) (.inl (Nat.le_refl _))
theorem Pol.drew (h : Pol W lo hi g A cap gs per now ss) : Pol W.drew lo hi g A cap gs per now ss := ⟨h.head, h.row, h.apart, h.each, h.len, h.ndp, h.ng, h.glo, h.slo, h.hB, h.hcap⟩
theorem Pol.drewN (h : Pol W lo hi g A cap gs per now ss) (n : Nat) : Pol (W.drewN n) lo hi g A cap gs per now ss := ⟨h.head, h.row, h.apart, h.each, h.len, h.ndp, h.ng, h.glo, h.slo, h.hB, h.hcap⟩
/-- A source turns. -/
theorem Pol.set (h : Pol W lo hi g A cap gs per now ss) (i : Nat) (hi' : i < gs.length) (s' : Src) (hb : Blk W1 (gs.getD i 0) 90 (scs s')) (ht : Turned W W1 (gs.getD i 0)) : Pol W1 lo hi g A cap gs per now (ss.set i s') := by
  have hm := mem_getD hi'
  refine ⟨ht.blk h.head (fun e => h.ng (by rw [e]; exact hm)), fun j hj => ?_, h.apart, fun j hj => ?_, by rw [List.length_set]; exact h.len, h.ndp, h.ng, h.glo, h.slo, by rw [ht.size]; exact h.hB, h.hcap⟩
  · obtain ⟨gr, hA, h1, h2, hc⟩ := h.row j hj
    exact ⟨gr, hA, h1, h2, (World.cell?_of_block (a := ⟨gr, j, none⟩) (ht.far gr (fun e => (h.apart gr hA).2 (by rw [e]; exact hm)))).trans hc⟩
  · by_cases hij : i = j
    · subst hij
      have e : (ss.set i s').getD i default = s' := by
        have : i < ss.length := by rw [← h.len]; exact hi'
        simp [this]
      rw [e]
      exact hb
    · have e : (ss.set i s').getD j default = ss.getD j default := by simp [hij]
      rw [e]
      exact ht.blk (h.each j hj) (getD_ne h.ndp hj hi' (Ne.symm hij))
/-- The time goes on. -/
theorem Pol.tick (h : Pol W lo hi g A cap gs per now ss) (now' : Int) (hb : Blk W1 g 87 [.int .i64 per, .int .i64 now', .slice A gs.length cap]) (ht : Turned W W1 g) : Pol W1 lo hi g A cap gs per now' ss := by
  refine ⟨hb, fun j hj => ?_, h.apart, fun j hj => ht.blk (h.each j hj) (fun e => h.ng (by rw [← e]; exact mem_getD hj)), h.len, h.ndp, h.ng, h.glo, h.slo, by rw [ht.size]; exact h.hB, h.hcap⟩
  obtain ⟨gr, hA, h1, h2, hc⟩ := h.row j hj
  exact ⟨gr, hA, h1, h2, (World.cell?_of_block (a := ⟨gr, j, none⟩) (ht.far gr (h.apart gr hA).1)).trans hc⟩
theorem Pol.now_ (h : Pol W lo hi g A cap gs per now ss) : W.cell? ⟨g, 1, none⟩ = some (.int .i64 now) := (blk_cell h.head 1).trans rfl
theorem Pol.row_ (h : Pol W lo hi g A cap gs per now ss) : W.cell? ⟨g, 2, none⟩ = some (.slice A gs.length cap) := (blk_cell h.head 2).trans rfl
theorem Pol.src (h : Pol W lo hi g A cap gs per now ss) {i : Nat} (hi' : i < gs.length) (k : Nat) (v : Value) (hv : (scs (ss.getD i default))[k]? = some v) : W.cell? ⟨gs.getD i 0, k, none⟩ = some v := (blk_cell (h.each i hi') k).trans hv
end
end Go.Proofs.YtcpkkaimingnlaaGreatDoor
end
section
namespace Go.Proofs.YtcpkkaimingnlaaGreatDoor
open Go.RowKit

section
variable {W : World} {lo hi g : Nat} {A : Option Addr} {cap : Nat} {gs : List Nat} {per now : Int} {ss : List Src}
set_option maxHeartbeats 1000000 in
theorem source_in (h : Pol W lo hi g A cap gs per now ss) (i : Nat) (hi' : i < gs.length) : Calls Tryz.prog 65 #[ptr g, .int .i64 ((i : Nat) : Int)] W fun e w' => e = .returned (ptr (gs.getD i 0)) ∧ W = w' := by
  obtain ⟨gr, hA, _, _, hc⟩ := h.row i hi'
  subst hA
  have c2 := h.row_
  have hcap := h.hcap
  unfold ptr at *
  generalize gs.getD i 0 = gi at *
  generalize gs.length = n at *
  clear h
  have t1 : decide ((i : Int) < 0) = false := decide_eq_false (by omega)
  have t2 : decide ((i : Int) ≥ (n : Int)) = false := decide_eq_false (by omega)
  have t3 : decide (n ≤ i) = false := decide_eq_false (by omega)
  have t4 : decide ((n : Int) ≤ (i : Int)) = false := decide_eq_false (by omega)
  go_enter Tryz.func65, Tryz.ntmps65
  go_wp2_with fail
  go_ret
  exact ⟨rfl, rfl⟩
set_option maxHeartbeats 1000000 in
theorem source_out (h : Pol W lo hi g A cap gs per now ss) (i : Int) (hi' : i < 0 ∨ (gs.length : Int) ≤ i) : Calls Tryz.prog 65 #[ptr g, .int .i64 i] W fun e w' => e = .returned (.pointer none) ∧ W = w' := by
  have c2 := h.row_
  have hcap := h.hcap
  unfold ptr at *
  generalize gs.length = n at *
  clear h
  by_cases h0 : i < 0
  · have t1 : decide (i < 0) = true := decide_eq_true h0
    clear h0 hi'
    go_enter Tryz.func65, Tryz.ntmps65
    go_wp2_with fail
    go_ret
    exact ⟨rfl, rfl⟩
  · have t1 : decide (i < 0) = false := decide_eq_false h0
    have t2 : decide (i ≥ (n : Int)) = true := decide_eq_true (by omega)
    have t4 : decide ((n : Int) ≤ i) = true := decide_eq_true (by omega)
    clear h0 hi'
    go_enter Tryz.func65, Tryz.ntmps65
    go_wp2_with fail
    go_ret
    exact ⟨rfl, rfl⟩
theorem now_any (h : Pol W lo hi g A cap gs per now ss) : Calls Tryz.prog 34 #[ptr g] W fun e w' => e = .returned (.int .i64 now) ∧ W = w' := by
  have c1 := h.now_
  unfold ptr
  clear h
  go_enter Tryz.func34, Tryz.ntmps34
  go_wp2_with fail
  go_ret
  exact ⟨rfl, rfl⟩
theorem due_in (h : Pol W lo hi g A cap gs per now ss) (i : Nat) (hi' : i < gs.length) : Calls Tryz.prog 35 #[ptr g, .int .i64 ((i : Nat) : Int)] W fun e w' => e = .returned (.int .i64 (ss.getD i default).due) ∧ W = w' := by
  have hs := source_in h i hi'
  have c := h.src hi' 2 _ rfl
  unfold ptr at *
  generalize gs.getD i 0 = gi at *
  have HS := Lib.hid hs
  clear h hs
  go_enter Tryz.func35, Tryz.ntmps35
  go_wp2_with (go_at_call 65; refine HS.out.mono ?_; rintro e w' ⟨rfl, rfl⟩)
  go_ret
  exact ⟨rfl, rfl⟩
theorem due_out (h : Pol W lo hi g A cap gs per now ss) (i : Int) (hi' : i < 0 ∨ (gs.length : Int) ≤ i) : Calls Tryz.prog 35 #[ptr g, .int .i64 i] W fun e w' => e = .returned (.int .i64 0) ∧ W = w' := by
  have hs := source_out h i hi'
  unfold ptr at *
  have HS := Lib.hid hs
  clear h hs hi'
  go_enter Tryz.func35, Tryz.ntmps35
  go_wp2_with (go_at_call 65; refine HS.out.mono ?_; rintro e w' ⟨rfl, rfl⟩)
  go_ret
  exact ⟨rfl, rfl⟩
theorem link_in (h : Pol W lo hi g A cap gs per now ss) (i : Nat) (hi' : i < gs.length) : Calls Tryz.prog 36 #[ptr g, .int .i64 ((i : Nat) : Int)] W fun e w' => e = .returned (.string (bs (ss.getD i default).own)) ∧ W = w' := by
  have hs := source_in h i hi'
  have c := h.src hi' 0 _ rfl
  unfold ptr at *
  generalize gs.getD i 0 = gi at *
  have HS := Lib.hid hs
  clear h hs
  go_enter Tryz.func36, Tryz.ntmps36
  go_wp2_with (go_at_call 65; refine HS.out.mono ?_; rintro e w' ⟨rfl, rfl⟩)
  go_ret
  exact ⟨rfl, rfl⟩
theorem link_out (h : Pol W lo hi g A cap gs per now ss) (i : Int) (hi' : i < 0 ∨ (gs.length : Int) ≤ i) : Calls Tryz.prog 36 #[ptr g, .int .i64 i] W fun e w' => e = .returned (.string ⟨#[]⟩) ∧ W = w' := by
  have hs := source_out h i hi'
  unfold ptr at *
  have HS := Lib.hid hs
  clear h hs hi'
  go_enter Tryz.func36, Tryz.ntmps36
  go_wp2_with (go_at_call 65; refine HS.out.mono ?_; rintro e w' ⟨rfl, rfl⟩)
  go_ret
  exact ⟨rfl, rfl⟩
theorem fails_in (h : Pol W lo hi g A cap gs per now ss) (i : Nat) (hi' : i < gs.length) : Calls Tryz.prog 37 #[ptr g, .int .i64 ((i : Nat) : Int)] W fun e w' => e = .returned (.int .i64 (ss.getD i default).fails) ∧ W = w' := by
  have hs := source_in h i hi'
  have c := h.src hi' 3 _ rfl
  unfold ptr at *
  generalize gs.getD i 0 = gi at *
  have HS := Lib.hid hs
  clear h hs
  go_enter Tryz.func37, Tryz.ntmps37
  go_wp2_with (go_at_call 65; refine HS.out.mono ?_; rintro e w' ⟨rfl, rfl⟩)
  go_ret
  exact ⟨rfl, rfl⟩
theorem fails_out (h : Pol W lo hi g A cap gs per now ss) (i : Int) (hi' : i < 0 ∨ (gs.length : Int) ≤ i) : Calls Tryz.prog 37 #[ptr g, .int .i64 i] W fun e w' => e = .returned (.int .i64 0) ∧ W = w' := by
  have hs := source_out h i hi'
  unfold ptr at *
  have HS := Lib.hid hs
  clear h hs hi'
  go_enter Tryz.func37, Tryz.ntmps37
  go_wp2_with (go_at_call 65; refine HS.out.mono ?_; rintro e w' ⟨rfl, rfl⟩)
  go_ret
  exact ⟨rfl, rfl⟩
end
/-! ### Tags -/
def tagOk (s : Bs) : Bool := decide (s.length ≤ 200) && s.all fun c => decide (32 ≤ c.toNat) && decide (c.toNat ≤ 126)
def tagP (s : Bs) : Bs := if tagOk s = true then s else []
def badB (c : UInt8) : Bool := !(decide (32 ≤ c.toNat) && decide (c.toNat ≤ 126))
theorem tag_fn (c : UInt8) (w : World) : Calls Tryz.prog 97 #[u8v c] w fun e w' => e = .returned (.bool (badB c)) ∧ w' = w := by
  have hl := c.toNat_lt
  unfold u8v
  have hb : badB c = (decide (c.toNat < 32) || decide (126 < c.toNat)) := by
    unfold badB
    rw [Bool.eq_iff_iff]
    simp
  rw [hb]
  generalize c.toNat = n at *
  clear hb
  go_enter Tryz.func97, Tryz.ntmps97
  go_wp2_with fail
  all_goals go_ret
  all_goals refine ⟨congrArg (fun b => Ending.returned (Value.bool b)) ?_, rfl⟩
  all_goals rw [Bool.eq_iff_iff]
  all_goals simp
  all_goals omega
end Go.Proofs.YtcpkkaimingnlaaGreatDoor
end
section
namespace Go.Proofs.YtcpkkaimingnlaaGreatDoor
open Go.RowKit

theorem conv_to (s : Bs) (W : World) : ∃ (cap : Nat) (W2 : World), (convert 9 46 (.string (bs s))).run Tryz.prog W = .ok (.slice (some ⟨W.heap.size, 0, none⟩) s.length cap) W2 ∧ Below W.heap.size W W2 ∧ ∀ j, j < s.length → W2.cell? ⟨W.heap.size, j, none⟩ = some (u8v (s.getD j 0)) := by
  have hr := Lib.run_convert_string_bytes (P := Tryz.prog) W 9 46 5 (bs s) Tryz.underlying9 Tryz.underlying46 Tryz.underlying5
  rw [bs_size] at hr
  refine ⟨_, _, hr, ⟨rfl, rfl, rfl, by rw [Lib.bytesWorld_size]; exact Nat.le_succ _, fun k hk => Lib.bytesWorld_at_old W 5 (bs s) k hk⟩, fun j hj => ?_⟩
  have := Lib.bytesWorld_cell W 5 (bs s) j (by rw [bs_size]; exact hj)
  rw [this]
  unfold u8v
  simp [bs]
set_option maxHeartbeats 2000000 in
set_option maxRecDepth 100000 in
theorem index97_any (l : Bs) (b cap : Nat) (w : World) (hl : l.length ≤ 1000000) (hc : ∀ j, j < l.length → w.cell? ⟨b, j, none⟩ = some (u8v (l.getD j 0))) :
    Calls Tryz.prog 118 #[.slice (some ⟨b, 0, none⟩) l.length cap, .func (.func 97) #[] #[]] w fun e w' => (∃ x : Int, e = .returned (.int .i64 x) ∧ decide (x ≥ 0) = l.any badB) ∧ w = w' := by
  have eg : ∀ args w, (callFunc 97 args).run Tryz.prog w = .ok (.enter 97 args) w := enters_of Tryz.func97 (by kernel_rfl) rfl
  obtain ⟨n, hn⟩ : ∃ n, n = l.length := ⟨_, rfl⟩
  have HC := Lib.hid hc
  rw [← hn] at hl ⊢
  have Hn := Lib.hid hn
  obtain ⟨R, hR⟩ : ∃ R, R = l.any badB := ⟨_, rfl⟩
  rw [← hR]
  have HR := Lib.hid hR
  clear hc hn hR
  go_enter Tryz.func118, Tryz.ntmps118
  go_wp2_with fail
  go_loop [8] (fun i => ∃ j : Nat, i = .int .i64 (j : Int) ∧ j ≤ n ∧ Hid ((l.take j).any badB = false)) (fun i => n - (intOf i).toNat)
  case atStart => exact ⟨0, rfl, Nat.zero_le _, Lib.hid rfl⟩
  case round =>
    obtain ⟨j, rfl, hj, HA⟩ := hrel
    by_cases hjn : j < n
    · have tj : decide ((j : Int) < (n : Int)) = true := by rw [decide_eq_true_eq]; omega
      have hjl : j < l.length := by rw [← Hn.out]; exact hjn
      have hcell := HC.out j hjl
      have hts : l.take (j + 1) = l.take j ++ [l.getD j 0] := by rw [List.take_succ_eq_append_getElem hjl]; simp [hjl]
      have hmem : l.getD j 0 ∈ l := by simp [hjl]
      have hC := tag_fn (l.getD j 0)
      obtain ⟨c, hc⟩ : ∃ c, c = l.getD j 0 := ⟨_, rfl⟩
      rw [← hc] at hts hmem hC hcell
      have HTS := Lib.hid hts; have HM := Lib.hid hmem
      clear hc hts hmem hjl
      unfold u8v at hC hcell
      cases hp : badB c with
      | false =>
        rw [hp] at hC
        have HCC := Lib.hid hC
        have E1 := Lib.hid (show (l.take (j + 1)).any badB = false by rw [HTS.out, List.any_append, HA.out]; simp [hp])
        clear hC hp
        go_wp2_with (go_at_fn 97; refine (HCC.out _).mono ?_; rintro e w9 ⟨rfl, rfl⟩)
        exact ⟨⟨j + 1, by go_num, by omega, E1⟩, by simp [intOf]; omega⟩
      | true =>
        rw [hp] at hC
        have HCC := Lib.hid hC
        have E1 := Lib.hid (show R = true by rw [HR.out, List.any_eq_true]; exact ⟨c, HM.out, hp⟩)
        clear hC hp
        go_wp2_with (go_at_fn 97; refine (HCC.out _).mono ?_; rintro e w9 ⟨rfl, rfl⟩)
        go_ret
        exact ⟨⟨_, rfl, by rw [E1.out]; exact decide_eq_true (by omega)⟩, rfl⟩
    · obtain rfl : j = n := by omega
      have tj : decide ((j : Int) < (j : Int)) = false := by rw [decide_eq_false_iff_not]; omega
      have E1 := Lib.hid (show R = false by
        rw [HR.out]
        have := HA.out
        rwa [List.take_of_length_le (by rw [← Hn.out]; exact Nat.le_refl _)] at this)
      go_wp2_with fail
      go_ret
      exact ⟨⟨_, rfl, by rw [E1.out]; rfl⟩, rfl⟩
theorem contains97_any (l : Bs) (b cap : Nat) (w : World) (hl : l.length ≤ 1000000) (hc : ∀ j, j < l.length → w.cell? ⟨b, j, none⟩ = some (u8v (l.getD j 0))) :
    Calls Tryz.prog 96 #[.slice (some ⟨b, 0, none⟩) l.length cap, .func (.func 97) #[] #[]] w fun e w' => e = .returned (.bool (l.any badB)) ∧ w = w' := by
  have h := Lib.hid (index97_any l b cap w hl hc)
  have HC := Lib.hid hc
  clear hc
  generalize l.any badB = R at *
  generalize l.length = n at *
  go_enter Tryz.func96, Tryz.ntmps96
  go_wp2_with (go_at_call 118; refine h.out.mono ?_; rintro e w' ⟨⟨x, rfl, hx⟩, rfl⟩; have HX := Lib.hid hx; clear hx)
  go_ret
  exact ⟨by rw [← HX.out]; rfl, rfl⟩
theorem tagOk_any (s : Bs) : tagOk s = (decide (s.length ≤ 200) && !s.any badB) := by
  unfold tagOk
  congr 1
  unfold badB
  induction s with
  | nil => rfl
  | cons c r ih => simp only [List.all_cons, List.any_cons, ih, Bool.not_or, Bool.not_not]
set_option maxHeartbeats 2000000 in
theorem tag_any (s : Bs) (w : World) (hl : s.length ≤ 1000000) : Calls Tryz.prog 68 #[.string (bs s)] w fun e w' => e = .returned (.string (bs (tagP s))) ∧ Below w.heap.size w w' := by
  have hz := bs_size s
  have ht := tagOk_any s
  by_cases h2 : 200 < s.length
  · have t1 : decide ((s.length : Int) > 200) = true := decide_eq_true (by omega)
    have e : tagP s = [] := by unfold tagP; rw [ht, decide_eq_false (by omega)]; rfl
    rw [e]
    clear e ht h2
    generalize bs s = S at *
    go_enter Tryz.func68, Tryz.ntmps68
    go_wp2_with fail
    go_ret
    exact ⟨rfl, Below.refl _ _⟩
  · have t1 : decide ((s.length : Int) > 200) = false := decide_eq_false (by omega)
    obtain ⟨cap, W2, hcv, hb, hc⟩ := conv_to s w
    have hcon := contains97_any s w.heap.size cap W2 hl hc
    rw [decide_eq_true (by omega), Bool.true_and] at ht
    have HT := Lib.hid (show tagP s = if s.any badB = true then [] else s by unfold tagP; rw [ht]; cases s.any badB <;> rfl)
    generalize s.any badB = R at *
    have HCon := Lib.hid hcon
    have HB := Lib.hid hb
    clear hc hcon hb ht
    cases R
    all_goals go_enter Tryz.func68, Tryz.ntmps68
    all_goals go_wp2_with (go_at_call 96; refine HCon.out.mono ?_; rintro e w' ⟨rfl, rfl⟩)
    all_goals go_ret
    all_goals exact ⟨by rw [HT.out]; rfl, HB.out⟩
end Go.Proofs.YtcpkkaimingnlaaGreatDoor
end
section
namespace Go.Proofs.YtcpkkaimingnlaaGreatDoor
open Go.RowKit

structure Ans where
  lost : Bool
  status : Int
  loc : Bs
  etag : Bs
  mod : Bs
  body : Value
def acs (a : Ans) : List Value := [.bool a.lost, .int .i64 a.status, .string (bs a.loc), .string (bs a.etag), .string (bs a.mod), a.body]
def moved : List Int := [301, 302, 303, 307, 308]
/-- The link that a source is asked for. -/
def askedP (s : Src) : Bs := if s.hops = 0 then s.own else s.beside
def ledP (s : Src) (status : Int) (loc : Bs) : Option Bs :=
  if moved.contains status = true ∧ s.hops < 5 then
    match resolveP ((parseP (askedP s)).getD Link.zero) loc with
    | none => none
    | some l => if (printL (bareF l)).length ≤ 2048 then some (printL (bareF l)) else none
  else none
/-- What hop's walk knows of memory. -/
structure HK (w W : World) (gi : Nat) (s : Src) (a : Ans) (L : List (Nat × Link)) : Prop where
  lk : LK w W L
  src : Blk W gi 90 (scs s)
  ans : Blk W w.heap.size 48 (acs a)
  lt : gi < w.heap.size
  gt : ∀ p ∈ L, w.heap.size < p.1
theorem HK.call {w W W1 : World} {gi : Nat} {s : Src} {a : Ans} {L : List (Nat × Link)} (h : HK w W gi s a L) (hb : Below W.heap.size W W1) : HK w W1 gi s a L :=
  ⟨h.lk.call hb, blk_below h.src hb (blk_lt h.src), blk_below h.ans hb (blk_lt h.ans), h.lt, h.gt⟩
theorem HK.box {w W W1 : World} {gi : Nat} {s : Src} {a : Ans} {L : List (Nat × Link)} (h : HK w W gi s a L) (x : Link) {g : Nat} (hg : g = W.heap.size) (hb : Blk W1 g 24 (lcs x).toArray.toList) (ht : Turned (W.alloc (.cells #[.string ⟨#[]⟩, .string ⟨#[]⟩, .int .i64 0, .string ⟨#[]⟩, .string ⟨#[]⟩, .string ⟨#[]⟩, .bool false, .bool false] 24)) W1 g) : HK w W1 gi s a ((g, x) :: L) := by
  have h1 := blk_lt h.src
  have h2 := blk_lt h.ans
  refine ⟨h.lk.box x hg hb ht, ht.blk (blk_alloc h.src _) (by omega), ht.blk (blk_alloc h.ans _) (by omega), h.lt, fun p hp => ?_⟩
  rcases List.mem_cons.1 hp with rfl | hp
  · show w.heap.size < g; omega
  · exact h.gt p hp
theorem HK.turn {w W W1 : World} {gi : Nat} {s : Src} {a : Ans} {L : List (Nat × Link)} {g : Nat} {x y : Link} (h : HK w W gi s a ((g, x) :: L)) (ht : Turned W W1 g) (hb : Blk W1 g 24 (lcs y)) (hn : ∀ p ∈ L, p.1 ≠ g) : HK w W1 gi s a ((g, y) :: L) := by
  have hg := h.gt _ (.head _)
  have hlt := h.lt
  refine ⟨h.lk.turn ht hb hn, ht.blk h.src (by simp only at hg; omega), ht.blk h.ans (by simp only at hg; omega), h.lt, fun p hp => ?_⟩
  rcases List.mem_cons.1 hp with rfl | hp
  · exact hg
  · exact h.gt p (.tail _ hp)
theorem HK.start (w : World) (gi : Nat) (s : Src) (a : Ans) (hb : Blk w gi 90 (scs s)) (o : Obj) : HK w ((w.alloc (.cells (acs a).toArray 48)).alloc o) gi s a [] := by
  have h1 : Blk (w.alloc (.cells (acs a).toArray 48)) w.heap.size 48 (acs a) := by have := blk_new w 48 (acs a).toArray; simpa using this
  exact ⟨⟨((Below.refl _ w).alloc (Nat.le_refl _) _).alloc (by simp) _, fun p hp => by cases hp⟩, blk_alloc (blk_alloc hb _) _, blk_alloc h1 _, blk_lt hb, fun p hp => by cases hp⟩
def HPost (R : Option Bs) (w : World) (e : Ending) (w' : World) : Prop := (∃ T : Bs, e = .returned (.tuple #[.string (bs T), .bool R.isSome]) ∧ ∀ x, R = some x → T = x) ∧ Below w.heap.size w w'
set_option maxHeartbeats 8000000 in
set_option maxRecDepth 100000 in
theorem hop_any (s : Src) (a : Ans) (gi : Nat) (w : World) (hT : Tabs w) (hb : Blk w gi 90 (scs s)) (hl : a.loc.length ≤ 1000000) (h1 : s.own.length ≤ 9223372036854775807) (h2 : s.beside.length ≤ 9223372036854775807) (hh : s.hops ≤ 1000000) :
    Calls Tryz.prog 66 #[ptr gi, .agg (acs a).toArray] w (HPost (ledP s a.status a.loc) w) := by
  have H0 := Lib.hid (HK.start w gi s a hb (.cells #[.int .i64 301, .int .i64 302, .int .i64 303, .int .i64 307, .int .i64 308] 3))
  have c1 := (blk_cell H0.out.ans 1).trans (show (acs a)[1]? = some (.int .i64 a.status) from rfl)
  have c7 := (blk_cell H0.out.src 7).trans (show (scs s)[7]? = some (.int .i64 ((s.hops : Nat) : Int)) from rfl)
  have hci : ∀ j, j < moved.length → ((w.alloc (.cells (acs a).toArray 48)).alloc (.cells #[.int .i64 301, .int .i64 302, .int .i64 303, .int .i64 307, .int .i64 308] 3)).cell? ⟨w.heap.size + 1, 0 + j, none⟩ = some (.int .i64 (moved.getD j 0)) := by
    intro j hj
    have hb2 : Blk ((w.alloc (.cells (acs a).toArray 48)).alloc (.cells #[.int .i64 301, .int .i64 302, .int .i64 303, .int .i64 307, .int .i64 308] 3)) (w.heap.size + 1) 3 [.int .i64 301, .int .i64 302, .int .i64 303, .int .i64 307, .int .i64 308] := by
      have := blk_new (w.alloc (.cells (acs a).toArray 48)) 3 #[.int .i64 301, .int .i64 302, .int .i64 303, .int .i64 307, .int .i64 308]
      simpa using this
    rw [Nat.zero_add]
    refine (blk_cell hb2 j).trans ?_
    have : j < 5 := hj
    match j, this with
    | 0, _ => rfl
    | 1, _ => rfl
    | 2, _ => rfl
    | 3, _ => rfl
    | 4, _ => rfl
  have hcon := Lib.hid (Tryz.slices_Contains_int (w.heap.size + 1) 0 5 5 moved a.status _ (Nat.le_refl 5) (by decide) hci)
  have hm5 : moved.take 5 = moved := rfl
  rw [hm5] at hcon
  obtain ⟨R, hR⟩ : ∃ R, R = ledP s a.status a.loc := ⟨_, rfl⟩
  rw [← hR]
  unfold ledP at hR
  have HR := Lib.hid hR
  have HT := Lib.hid hT
  clear hR hT hb hm5 hci
  unfold ptr
  cases hc : moved.contains a.status with
  | false =>
    have Hr := Lib.hid (show R = none by rw [HR.out, if_neg (by rw [hc]; simp)])
    rw [hc] at hcon
    clear hc HR c7
    go_enter Tryz.func66, Tryz.ntmps66
    go_wp2_with (go_at_call 95; refine hcon.out.mono ?_; rintro e w' ⟨rfl, rfl⟩)
    go_ret2
    exact ⟨⟨[], by rw [Hr.out]; rfl, fun x hx => by rw [Hr.out] at hx; cases hx⟩, H0.out.lk.bel⟩
  | true =>
    rw [hc] at hcon
    by_cases h5 : 5 ≤ s.hops
    · have Hr := Lib.hid (show R = none by rw [HR.out, if_neg (by omega)])
      have t1 : decide (((s.hops : Nat) : Int) ≥ 5) = true := decide_eq_true (by omega)
      have t2 : decide ((5 : Int) ≤ ((s.hops : Nat) : Int)) = true := decide_eq_true (by omega)
      have t3 : decide (5 ≤ s.hops) = true := decide_eq_true h5
      clear hc HR h5
      go_enter Tryz.func66, Tryz.ntmps66
      go_wp2_with (go_at_call 95; refine hcon.out.mono ?_; rintro e w' ⟨rfl, rfl⟩)
      go_ret2
      exact ⟨⟨[], by rw [Hr.out]; rfl, fun x hx => by rw [Hr.out] at hx; cases hx⟩, H0.out.lk.bel⟩
    · have hr := HR.out
      rw [if_pos ⟨hc, by omega⟩] at hr
      have Hr := Lib.hid hr
      have t1 : decide (((s.hops : Nat) : Int) ≥ 5) = false := decide_eq_false (by omega)
      have t2 : decide ((5 : Int) ≤ ((s.hops : Nat) : Int)) = false := decide_eq_false (by omega)
      have t3 : decide (5 ≤ s.hops) = false := decide_eq_false h5
      clear hc HR h5 hr
      go_enter Tryz.func66, Tryz.ntmps66
      go_upto_region 3 with (go_at_call 95; refine hcon.out.mono ?_; rintro e w' ⟨rfl, rfl⟩)
      clear t1 t2 t3 c1 c7 hcon
      obtain ⟨W0, hW0⟩ : ∃ W0, W0 = (w.alloc (.cells (acs a).toArray 48)).alloc (.cells #[.int .i64 301, .int .i64 302, .int .i64 303, .int .i64 307, .int .i64 308] 3) := ⟨_, rfl⟩
      rw [← hW0] at H0 ⊢
      clear hW0
      have c0 := (blk_cell H0.out.src 0).trans (show (scs s)[0]? = some (.string (bs s.own)) from rfl)
      have cb := (blk_cell H0.out.src 1).trans (show (scs s)[1]? = some (.string (bs s.beside)) from rfl)
      have c7 := (blk_cell H0.out.src 7).trans (show (scs s)[7]? = some (.int .i64 ((s.hops : Nat) : Int)) from rfl)
      have hal : (askedP s).length ≤ 9223372036854775807 := by unfold askedP; split <;> assumption
      obtain ⟨b0, hb0⟩ : ∃ b0, b0 = decide (0 < s.hops) := ⟨_, rfl⟩
      have t1 : decide (((s.hops : Nat) : Int) > 0) = b0 := by rw [hb0, Bool.eq_iff_iff, decide_eq_true_eq, decide_eq_true_eq]; omega
      have t3 : decide (0 < s.hops) = b0 := hb0.symm
      have Hb0 := Lib.hid hb0
      clear hb0
      go_upto_if 32 with fail
      clear t1 t3
      go_cut [6] (fun v wx => v = .string (bs (askedP s)) ∧ wx = W0)
      case first =>
        cases b0 with
        | false =>
          have HA := Lib.hid (show askedP s = s.own by unfold askedP; rw [if_pos (by have := of_decide_eq_false Hb0.out.symm; omega)])
          go_wp2_with fail
          go_meet
          exact ⟨by rw [HA.out], rfl⟩
        | true =>
          have HA := Lib.hid (show askedP s = s.beside by unfold askedP; rw [if_neg (by have := of_decide_eq_true Hb0.out.symm; omega)])
          go_wp2_with fail
          go_meet
          exact ⟨by rw [HA.out], rfl⟩
      case rest =>
        obtain ⟨rfl, rfl⟩ := hcut
        clear c0 cb c7
        have hpa := Lib.hid (fun W (h : Below w.heap.size w W) => parse_val (askedP s) W (HT.out.below h) hal)
        have hB := sB_get (askedP s)
        generalize (parseP (askedP s)).getD Link.zero = X at *
        generalize errI (parseP (askedP s)) = EX at *
        generalize bs (askedP s) = SA at *
        clear hal
        have hre := Lib.hid (fun W (h : Below w.heap.size w W) => resolve_any X a.loc W (HT.out.below h) hB hl)
        go_upto_region 7 with (first | (go_at_call 14; refine (hpa.out _ H0.out.lk.bel).mono ?_; rintro e w3 ⟨rfl, hb1⟩; have HA := Lib.hid (H0.out.call hb1); clear hb1) | ((with_reducible refine atS 7 40 ?_); refine wpList_storeL rfl (.tmp 7) (.tmp 40) rfl w3.heap.size (lcs X).toArray (by rfl) (by rfl) zcs (new_zcs w3) rfl rfl rfl ?_; intro X1 hb1 ht1; have HB := Lib.hid (HA.out.box X rfl hb1 ht1); clear hb1 ht1))
        have c2 := (blk_cell HB.out.ans 2).trans (show (acs a)[2]? = some (.string (bs a.loc)) from rfl)
        clear hpa H0 HA
        cases hres : resolveP X a.loc with
        | none =>
          rw [hres] at hre
          have hre : Hid (∀ W, Below w.heap.size w W → Calls Tryz.prog 17 #[.agg (lcs X).toArray, .string (bs a.loc)] W fun e w' => e = .returned (.tuple #[.agg (lcs Link.zero).toArray, .int .i64 40]) ∧ Below W.heap.size W w') := hre
          have HRN := Lib.hid (show R = none by rw [Hr.out, hres])
          clear hres Hr
          go_wp2_with (first | ((with_reducible refine atD 43 ?_); refine wpList_loadW (by rfl) (.tmp 7) rfl w3.heap.size (by rfl) X (HB.out.lk.at_ (.head _)) ?_) | (go_at_call 17; refine (hre.out _ HB.out.lk.bel).mono ?_; rintro e w4 ⟨rfl, hb1⟩; have HC := Lib.hid (HB.out.call hb1); have hlt4 := Nat.lt_of_lt_of_le (blk_lt (HB.out.lk.at_ (.head _))) hb1.size; clear hb1) | ((with_reducible refine atS 9 47 ?_); refine wpList_storeL rfl (.tmp 9) (.tmp 47) rfl w4.heap.size (lcs Link.zero).toArray (by rfl) (by rfl) zcs (new_zcs w4) rfl rfl rfl ?_; intro X2 hb1 ht1; have HD := Lib.hid (HC.out.box Link.zero rfl hb1 ht1); clear hb1 ht1))
          go_ret2
          exact ⟨⟨[], by rw [HRN.out]; rfl, fun x hx => by rw [HRN.out] at hx; cases hx⟩, HD.out.lk.bel⟩
        | some Y =>
          rw [hres] at hre
          have hre : Hid (∀ W, Below w.heap.size w W → Calls Tryz.prog 17 #[.agg (lcs X).toArray, .string (bs a.loc)] W fun e w' => e = .returned (.tuple #[.agg (lcs Y).toArray, .int .i64 0]) ∧ Below W.heap.size W w') := hre
          have hback := resolve_back hres
          have hY := (sB_parse hback).1
          have hpr := Lib.hid (fun W (h : Below w.heap.size w W) => print_val (bareF Y) (sB_bareF hY) W (HT.out.below h))
          have hpz : (bs (printL (bareF Y))).size = (printL (bareF Y)).length := bs_size _
          have hrr : R = if (printL (bareF Y)).length ≤ 2048 then some (printL (bareF Y)) else none := by rw [Hr.out, hres]
          have HRR := Lib.hid hrr
          clear hres Hr hrr hback hY
          go_upto_region 11 with (first | ((with_reducible refine atD 43 ?_); refine wpList_loadW (by rfl) (.tmp 7) rfl w3.heap.size (by rfl) X (HB.out.lk.at_ (.head _)) ?_) | (go_at_call 17; refine (hre.out _ HB.out.lk.bel).mono ?_; rintro e w4 ⟨rfl, hb1⟩; have HC := Lib.hid (HB.out.call hb1); have hlt4 := Nat.lt_of_lt_of_le (blk_lt (HB.out.lk.at_ (.head _))) hb1.size; clear hb1) | ((with_reducible refine atS 9 47 ?_); refine wpList_storeL rfl (.tmp 9) (.tmp 47) rfl w4.heap.size (lcs Y).toArray (by rfl) (by rfl) zcs (new_zcs w4) rfl rfl rfl ?_; intro X2 hb1 ht1; have HD := Lib.hid (HC.out.box Y rfl hb1 ht1); clear hb1 ht1) | ((with_reducible refine atC 51 ?_); refine wpList_storeC rfl 9 (.tmp 51) (.const (.string ⟨#[]⟩)) rfl w4.heap.size 5 (.string ⟨#[]⟩) (by rfl) (by rfl) rfl info9 24 _ (HD.out.lk.at_ (.head _)) (by exact Nat.le_of_ble_eq_true rfl) ?_; intro X6 hb1 ht1; have HE1 := Lib.hid hb1; have HT1 := Lib.hid ht1; clear hb1 ht1) | ((with_reducible refine atC 52 ?_); refine wpList_storeC rfl 4 (.tmp 52) (.const (.bool false)) rfl w4.heap.size 7 (.bool false) (by rfl) (by rfl) rfl info4 24 _ HE1.out (by exact Nat.le_of_ble_eq_true rfl) ?_; intro W9 hb1 ht1; have HE2 := Lib.hid hb1; have HT2 := Lib.hid ht1; clear hb1 ht1))
          have HE7 := HE2.out
          have HF := (show Hid (HK w W9 gi s a [(w4.heap.size, bareF Y), (w3.heap.size, X)]) from Lib.hid (HD.out.turn (HT1.out.trans HT2.out) HE7 (fun p hp => by
            rcases List.mem_cons.1 hp with rfl | hp
            · exact Nat.ne_of_lt hlt4
            · cases hp)))
          clear HE7 HE1 HE2 HT1 HT2 HD HC
          obtain ⟨T, hT⟩ : ∃ T, T = printL (bareF Y) := ⟨_, rfl⟩
          rw [← hT] at hpr hpz HRR
          clear hT
          by_cases hl2 : T.length ≤ 2048
          · have t1 : decide ((T.length : Int) ≤ 2048) = true := decide_eq_true (by omega)
            have HRS := Lib.hid (show R = some T by rw [HRR.out, if_pos hl2])
            clear hl2 HRR
            go_wp2_with (first | ((with_reducible refine atD 53 ?_); refine wpList_loadW (by rfl) (.tmp 9) rfl w4.heap.size (by rfl) (bareF Y) (HF.out.lk.at_ (.head _)) ?_) | (go_at_call 16; refine (hpr.out _ HF.out.lk.bel).mono ?_; rintro e w5 ⟨rfl, hb1⟩; have HG := Lib.hid (HF.out.call hb1); clear hb1))
            go_ret2
            exact ⟨⟨T, by rw [HRS.out]; rfl, fun x hx => by rw [HRS.out] at hx; injection hx⟩, HG.out.lk.bel⟩
          · have t1 : decide ((T.length : Int) ≤ 2048) = false := decide_eq_false (by omega)
            have HRS := Lib.hid (show R = none by rw [HRR.out, if_neg hl2])
            clear hl2 HRR
            go_wp2_with (first | ((with_reducible refine atD 53 ?_); refine wpList_loadW (by rfl) (.tmp 9) rfl w4.heap.size (by rfl) (bareF Y) (HF.out.lk.at_ (.head _)) ?_) | (go_at_call 16; refine (hpr.out _ HF.out.lk.bel).mono ?_; rintro e w5 ⟨rfl, hb1⟩; have HG := Lib.hid (HF.out.call hb1); clear hb1))
            go_ret2
            exact ⟨⟨T, by rw [HRS.out]; rfl, fun x hx => by rw [HRS.out] at hx; cases hx⟩, HG.out.lk.bel⟩
end Go.Proofs.YtcpkkaimingnlaaGreatDoor
end
section
namespace Go.Proofs.YtcpkkaimingnlaaGreatDoor
open Go.RowKit

def settleS (s : Src) : Src := { s with hops := 0, beside := [], lasting := false }
set_option maxHeartbeats 1000000 in
theorem settle_any (gi : Nat) (w : World) (s : Src) (hb : Blk w gi 90 (scs s)) : Calls Tryz.prog 67 #[ptr gi] w fun e w' => e = .returned (.tuple #[]) ∧ Blk w' gi 90 (scs (settleS s)) ∧ Turned w w' gi := by
  have HB := Lib.hid hb
  clear hb
  unfold ptr
  go_enter Tryz.func67, Tryz.ntmps67
  go_wp2_with (first | ((with_reducible refine atC 6 ?_); refine wpList_storeC rfl 3 (.tmp 6) (.const (.int .i64 0)) rfl gi 7 (.int .i64 0) (by rfl) (by rfl) rfl info3 90 _ HB.out (by exact Nat.le_of_ble_eq_true rfl) ?_; intro X1 hb1 ht1; have HB1 := Lib.hid hb1; have HT1 := Lib.hid ht1; clear hb1 ht1) | ((with_reducible refine atC 8 ?_); refine wpList_storeC rfl 9 (.tmp 8) (.const (.string ⟨#[]⟩)) rfl gi 1 (.string ⟨#[]⟩) (by rfl) (by rfl) rfl info9 90 _ HB1.out (by exact Nat.le_of_ble_eq_true rfl) ?_; intro X2 hb1 ht1; have HB2 := Lib.hid hb1; have HT2 := Lib.hid ht1; clear hb1 ht1) | ((with_reducible refine atC 10 ?_); refine wpList_storeC rfl 4 (.tmp 10) (.const (.bool false)) rfl gi 8 (.bool false) (by rfl) (by rfl) rfl info4 90 _ HB2.out (by exact Nat.le_of_ble_eq_true rfl) ?_; intro X3 hb1 ht1; have HB3 := Lib.hid hb1; have HT3 := Lib.hid ht1; clear hb1 ht1))
  go_end0
  exact ⟨rfl, HB3.out, HT1.out.trans (HT2.out.trans HT3.out)⟩
end Go.Proofs.YtcpkkaimingnlaaGreatDoor
end
section
namespace Go.Proofs.YtcpkkaimingnlaaGreatDoor
open Go.RowKit

theorem info5b : (Tryz.prog.info? 5).map (fun i => (i.zero, i.size, i.bytes)) = some (some (.int .u8 0), 1, 1) := by kernel_rfl
theorem bytes_one (l : Bs) : ∀ u ∈ Lib.byteCells l, u.oneCell' = true := by
  intro u hu
  obtain ⟨c, _, rfl⟩ := List.mem_map.1 hu
  rfl
theorem bcells_len (l : Bs) : (Lib.byteCells l).length = l.length := by simp [Lib.byteCells]
theorem eq_nil46 (A : Option Addr) (n c : Nat) (w : World) : (binOp .eql 46 (.slice A n c) (.slice none 0 0)).run Tryz.prog w = .ok (.bool A.isNone) w := by
  simp [binOp, run_equal_slice_nil w 46 5 A n c Tryz.underlying46]
set_option maxHeartbeats 1000000 in
set_option maxRecDepth 100000 in
/-- The clone lies in blocks of its own. -/
theorem clone_any (A : Option Addr) (cap : Nat) (l : Bs) (w : World) (hl : l.length ≤ 1000000000) (hr : Rd w w.heap.size 1 A l.length (Lib.byteCells l)) :
    Calls Tryz.prog 69 #[.slice A l.length cap] w fun e w' => (∃ v, e = .returned v ∧ BOwn w' w.heap.size v l) ∧ Below w.heap.size w w' := by
  cases A with
  | none =>
    have h0 : l.length = 0 := by
      rcases Nat.eq_zero_or_pos l.length with h | h
      · exact h
      · obtain ⟨b, off, e, _⟩ := hr.2 h
        cases e
    have hl0 : l = [] := List.eq_nil_of_length_eq_zero h0
    subst hl0
    clear hr h0 hl
    have hq := fun W => eq_nil46 none 0 cap W
    go_enter Tryz.func69, Tryz.ntmps69
    go_wp2_with fail
    go_ret
    exact ⟨⟨_, rfl, BOwn.nil⟩, Below.refl _ _⟩
  | some ad =>
    have hbl := bcells_len l
    have h1 := bytes_one l
    have HR := Lib.hid (fun o => hr.keep (below_one w o))
    have hown : (w.alloc (.cells #[] 5)).ownsRow w.heap.size 5 1 (.slice (some ⟨w.heap.size, 0, none⟩) 0 0) 0 [] := by
      refine ⟨rfl, .inr ⟨w.heap.size, 0, #[], rfl, Nat.le_refl _, heap_alloc_new w _, Nat.le_refl _, Nat.zero_le _, rfl, rfl⟩⟩
    have HO := Lib.hid hown
    have hB := below_one w (.cells #[] 5)
    have HB := Lib.hid hB
    have hs := hB.size
    clear hr hown hB
    obtain ⟨n, hn⟩ : ∃ n, n = l.length := ⟨_, rfl⟩
    rw [← hn] at HR hbl hl ⊢
    have Hn := Lib.hid hn
    clear hn
    have hq := fun W => eq_nil46 (some ad) n cap W
    go_enter Tryz.func69, Tryz.ntmps69
    go_wp2_with ((at_builtin; refine wpList_appendRd rfl (.tmp 5) (.tmp 6) 46 rfl w.heap.size 5 (.int .u8 0) 1 1 Tryz.underlying46 info5b rfl (by decide) _ 0 [] rfl HO.out w.heap.size (some ad) n cap (Lib.byteCells l) rfl (HR.out _) h1 (by omega) (by omega) hs ?_; intro A' c' w2 ho2 hb2 hg2; have HO2 := Lib.hid ho2; have HB2 := Lib.hid hb2; clear ho2 hb2 hg2))
    go_ret
    refine ⟨⟨_, rfl, ?_⟩, HB.out.trans HB2.out⟩
    have := HO2.out
    rw [Nat.zero_add, List.nil_append] at this
    unfold BOwn
    rw [← Hn.out]
    exact this
end Go.Proofs.YtcpkkaimingnlaaGreatDoor
end
section
namespace Go.Proofs.YtcpkkaimingnlaaGreatDoor
open Go.RowKit

def zeroAns : Ans := ⟨false, 0, [], [], [], .slice none 0 0⟩
/-- What a source becomes of an answer; is its body taken? -/
def hearT (per now : Int) (s : Src) (status : Int) (loc et mo : Bs) (n : Nat) : Src × Bool :=
  if status = 200 ∧ n ≤ 65536 then
    ({ settleS s with own := if 0 < s.hops ∧ s.lasting = true then s.beside else s.own, due := now + per, fails := 0, etag := tagP et, mod := tagP mo }, true)
  else if status = 304 ∧ s.hops = 0 ∧ s.etag ++ s.mod ≠ [] then ({ s with due := now + per, fails := 0 }, false)
  else match ledP s status loc with
    | some tgt => ({ s with lasting := (decide (s.hops = 0) || s.lasting) && (decide (status = 301) || decide (status = 308)), hops := s.hops + 1, beside := tgt, due := now + 1 }, false)
    | none => ({ settleS s with fails := min (s.fails + 1) 6, due := now + per * 2 ^ (min (s.fails + 1) 6).toNat }, false)
def hearS (per now : Int) (s : Src) (status : Int) (loc et mo : Bs) (n : Nat) : Src × Bool := hearT per now { s with out := false } status loc et mo n
structure SOk (s : Src) : Prop where
  own : s.own.length ≤ 2048
  beside : s.beside.length ≤ 2048
  etag : s.etag.length ≤ 200
  mod : s.mod.length ≤ 200
  fails : 0 ≤ s.fails ∧ s.fails ≤ 6
  hops : s.hops ≤ 5
/-- What Hear's walk knows of memory. -/
structure HS (w W : World) (g gi : Nat) (hd : List Value) (s : Src) (a : Ans) : Prop where
  src : Blk W gi 90 (scs s)
  head : Blk W g 87 hd
  ans : Blk W w.heap.size 48 (acs a)
  only : Only gi (gi + 1) w W
  lt : gi < w.heap.size
  glt : g < w.heap.size
  ne : g ≠ gi
section
variable {w W W1 : World} {g gi : Nat} {hd : List Value} {s : Src} {a : Ans}
theorem HS.start (h1 : Blk w gi 90 (scs s)) (h2 : Blk w g 87 hd) (ne : g ≠ gi) : HS w (w.alloc (.cells (acs a).toArray 48)) g gi hd s a :=
  ⟨blk_alloc h1 _, blk_alloc h2 _, by have := blk_new w 48 (acs a).toArray; simpa using this, (Only.refl _ _ w).alloc _, blk_lt h1, blk_lt h2, ne⟩
theorem HS.call (h : HS w W g gi hd s a) (hb : Below W.heap.size W W1) : HS w W1 g gi hd s a :=
  ⟨blk_below h.src hb (blk_lt h.src), blk_below h.head hb (blk_lt h.head), blk_below h.ans hb (blk_lt h.ans), h.only.call hb, h.lt, h.glt, h.ne⟩
theorem HS.set (h : HS w W g gi hd s a) (s' : Src) (hb : Blk W1 gi 90 (scs s')) (ht : Turned W W1 gi) : HS w W1 g gi hd s' a :=
  ⟨hb, ht.blk h.head h.ne, ht.blk h.ans (Nat.ne_of_gt h.lt), h.only.turn ht (Nat.le_refl _) (Nat.lt_succ_self _), h.lt, h.glt, h.ne⟩
theorem HS.setA (h : HS w W g gi hd s a) (a' : Ans) (hb : Blk W1 w.heap.size 48 (acs a')) (ht : Turned W W1 w.heap.size) : HS w W1 g gi hd s a' :=
  ⟨ht.blk h.src (Nat.ne_of_lt h.lt), ht.blk h.head (Nat.ne_of_lt h.glt), hb, ⟨ht.base.os.trans h.only.os, ht.base.tape.trans h.only.tape, ht.base.output.trans h.only.output, Nat.le_trans h.only.size (Nat.le_of_eq ht.size.symm), fun k hk hn => (ht.far k (by omega)).trans (h.only.block k hk hn)⟩, h.lt, h.glt, h.ne⟩
theorem HS.drew (h : HS w W g gi hd s a) : HS w W.drew g gi hd s a := ⟨h.src, h.head, h.ans, h.only.drew, h.lt, h.glt, h.ne⟩
theorem HS.drewN (h : HS w W g gi hd s a) (n : Nat) : HS w (W.drewN n) g gi hd s a := ⟨h.src, h.head, h.ans, h.only.drewN n, h.lt, h.glt, h.ne⟩
theorem HS.sc (h : HS w W g gi hd s a) (k : Nat) (v : Value) (hv : (scs s)[k]? = some v) : W.cell? ⟨gi, k, none⟩ = some v := (blk_cell h.src k).trans hv
theorem HS.ac (h : HS w W g gi hd s a) (k : Nat) (v : Value) (hv : (acs a)[k]? = some v) : W.cell? ⟨w.heap.size, k, none⟩ = some v := (blk_cell h.ans k).trans hv
theorem HS.hc (h : HS w W g gi hd s a) (k : Nat) (v : Value) (hv : hd[k]? = some v) : W.cell? ⟨g, k, none⟩ = some v := (blk_cell h.head k).trans hv
end
/-- The poller behind it. -/
theorem Pol.back {w W : World} {lo hi g : Nat} {A : Option Addr} {cap : Nat} {gs : List Nat} {per now : Int} {ss : List Src} (h : Pol w lo hi g A cap gs per now ss) (i : Nat) (hi' : i < gs.length) (s' : Src) (hb : Blk W (gs.getD i 0) 90 (scs s')) (ho : Only (gs.getD i 0) (gs.getD i 0 + 1) w W) : Pol W lo hi g A cap gs per now (ss.set i s') := by
  have hm := mem_getD hi'
  have hslt : ∀ j, j < gs.length → gs.getD j 0 < w.heap.size := fun j hj => blk_lt (h.each j hj)
  refine ⟨blk_only h.head ho (by have : g ≠ gs.getD i 0 := fun e => h.ng (by rw [e]; exact hm); omega), fun j hj => ?_, h.apart, fun j hj => ?_, by rw [List.length_set]; exact h.len, h.ndp, h.ng, h.glo, h.slo, Nat.le_trans h.hB ho.size, h.hcap⟩
  · obtain ⟨gr, hA, h1, h2, hc⟩ := h.row j hj
    refine ⟨gr, hA, h1, h2, (World.cell?_of_block (a := ⟨gr, j, none⟩) (ho.block gr (Nat.lt_of_lt_of_le h2 h.hB) ?_)).trans hc⟩
    have : gr ≠ gs.getD i 0 := fun e => (h.apart gr hA).2 (by rw [e]; exact hm)
    omega
  · by_cases hij : i = j
    · subst hij
      have e : (ss.set i s').getD i default = s' := by
        have : i < ss.length := by rw [← h.len]; exact hi'
        simp [this]
      rw [e]
      exact hb
    · have e : (ss.set i s').getD j default = ss.getD j default := by simp [hij]
      rw [e]
      have := getD_ne h.ndp hj hi' (Ne.symm hij)
      exact blk_only (h.each j hj) ho (by omega)
/-- A store of one cell, in a region that draws. -/
theorem wp_storeC {P : Program} {o : Oper} {a : Act} {w : World} {K : Act → World → Prop} {Q : Exit → Act → World → Prop} (ty : TypeId) (x y : Operand) (ho : o.op = .store ty x y)
    (g i : Nat) (v : Value) (hx : a.eval x = .pointer (some ⟨g, i, none⟩)) (hy : a.eval y = v) (h1 : v.oneCell' = true) (hs : (P.info? ty).map (·.size) = some 1)
    (t : TypeId) (cs : List Value) (hb : Blk w g t cs) (hi : i < cs.length)
    (h : ∀ w', Blk w' g t (cs.set i v) → Turned w w' g → K (a.put o.dst undef) w') : o.wp P a w K Q := by
  have hst := run_storeCells_at P g i t [v] 0 cs.toArray w hb (by simp; omega) (fun x hx => by rw [List.mem_singleton.1 hx]; exact h1)
  have e : ((cs.toArray).toList.take (i + 0) ++ [v] ++ (cs.toArray).toList.drop (i + 0 + [v].length)).toArray = (cs.set i v).toArray := by
    simp only [Nat.add_zero, List.length_cons, List.length_nil, Nat.zero_add]
    rw [← set_mid cs i v hi]
  rw [e] at hst
  unfold Oper.wp execOp
  cases hq : P.info? ty with
  | none => simp [hq] at hs
  | some j =>
    have hj : j.size = 1 := by simpa [hq] using hs
    have hv : (storeVar ty ⟨g, i, none⟩ v).run P w = .ok () (w.setRow g (cs.set i v).toArray) := by
      simp [storeVar, sizeOf, typeInfo, hq, hj, cells_one h1, Sem.run_bind, hst]
    simp only [ho, hx, hy, Instr.storeAt, Instr.sureAddr, Sem.run_bind, Sem.run_pure, Result.andThen_ok, hv]
    exact h _ (blk_setRow hb _) (turned_setRow _ _ _)
theorem info48 : (Tryz.prog.info? 48).map (·.size) = some 6 := by kernel_rfl
end Go.Proofs.YtcpkkaimingnlaaGreatDoor
end
section
namespace Go.Proofs.YtcpkkaimingnlaaGreatDoor
open Go.RowKit

/-- An operation whose value is known. -/
theorem wpList_val {P : Program} {ops : Array Oper} {rest : List Oper} {o : Oper} {a : Act} {w : World} {Q : Exit → Act → World → Prop} (hgd : o.guard = none) (v : Value) (h1 : (execOp a.eval o).run P w = .ok (.value v) w)
    (h : wpList P ops Q rest (a.put o.dst v) w) : wpList P ops Q (o :: rest) a w :=
  wpList_plain hgd fun K hK => by unfold Oper.wp; rw [h1]; exact hK _ _ h
section
variable {P : Program} {md : Region.Mode} {ops : Array Oper} {Q : Exit → Act → World → Prop} {S : World → Prop} {fuel : Nat} {listed : Array Bool} {a : Act} {w : World}
/-- A store that alone is ready. -/
theorem wpAnyH_storeC (i : Nat) {o : Oper} (hi : ops[i]? = some o) (hr : Region.ready md ops listed = [i]) (hwt : Region.wanted o (yielded ops a.tmps) = true)
    (ty : TypeId) (x y : Operand) (ho : o.op = .store ty x y) (g k : Nat) (v : Value) (hx : a.eval x = .pointer (some ⟨g, k, none⟩)) (hy : a.eval y = v) (h1 : v.oneCell' = true) (hs : (P.info? ty).map (·.size) = some 1)
    (t : TypeId) (cs : List Value) (hb : Blk w g t cs) (hk : k < cs.length)
    (h : ∀ w', Blk w' g t (cs.set k v) → Turned w w' g → S w' ∧ (S w' → wpAnyH P md ops Q S fuel (listed.setIfInBounds i true) (a.put o.dst undef) w')) : wpAnyH P md ops Q S (fuel + 1) listed a w := by
  refine wpAnyH_all hr (by simp) ?_
  intro j hj
  obtain rfl := List.mem_singleton.1 hj
  unfold wpOp
  simp only [hi, hwt, if_true]
  exact .inl (wp_storeC ty x y ho g k v hx hy h1 hs t cs hb hk fun w' hb1 ht1 => ⟨(h w' hb1 ht1).1, (h w' hb1 ht1).2 (h w' hb1 ht1).1⟩)
/-- A store of a whole block that alone is ready. -/
theorem wpAnyH_storeR (i : Nat) {o : Oper} (hi : ops[i]? = some o) (hr : Region.ready md ops listed = [i]) (hwt : Region.wanted o (yielded ops a.tmps) = true)
    (ty : TypeId) (x y : Operand) (ho : o.op = .store ty x y) (g : Nat) (new : Array Value) (hx : a.eval x = .pointer (some ⟨g, 0, none⟩)) (hy : a.eval y = .agg new) (t : TypeId) (cs : List Value) (hb : Blk w g t cs)
    (hif : (P.info? ty).map (·.size) = some new.size) (hl : cs.length = new.size) (h1 : new.all (·.oneCell') = true)
    (h : ∀ w', Blk w' g t new.toList → Turned w w' g → S w' ∧ (S w' → wpAnyH P md ops Q S fuel (listed.setIfInBounds i true) (a.put o.dst undef) w')) : wpAnyH P md ops Q S (fuel + 1) listed a w := by
  refine wpAnyH_all hr (by simp) ?_
  intro j hj
  obtain rfl := List.mem_singleton.1 hj
  unfold wpOp
  simp only [hi, hwt, if_true]
  have hb2 := blk_setRow hb new.toList
  have ht2 := turned_setRow w g new.toList.toArray
  rw [Array.toArray_toList] at hb2 ht2
  have := h _ hb2 ht2
  exact .inl (wp_store_row ty x y ho g new hx hy t cs.toArray hb hif (by simpa using hl) h1 ⟨this.1, this.2 this.1⟩)
end
end Go.Proofs.YtcpkkaimingnlaaGreatDoor
end
