/-
  Texts of this seat, joined: Trd, Smi. Each says what it proves, ahead of itself.
-/
import Derived.BigQuiet
import Derived.RegionTactic
import Derived.BigRegion
import Derived.Test.YthilkpjdfjjikaaDoorTrp
import Derived.Test.YthilkpjdfjjikaaDoorRtnM
set_option linter.unusedVariables false
set_option linter.unusedSimpArgs false
section
/-
  Pieces and parts in memory, read: whose they are does not matter.
-/
namespace Go.Proofs.YthilkpjdfjjikaaDoor
open Go.RowKit

/-- A piece's cells, its path's slice given. -/
def pcc (p : Pc) (v : Value) : List Value := [.int .i64 p.kind, .int .i64 p.pos, .string (bs p.text), v, .string (bs p.name), .int .i64 p.place]
/-- A part's cells. -/
def ptc (p : Pc) (v k o : Value) : List Value := [.int .i64 p.kind, .int .i64 p.pos, .string (bs p.text), v, .string (bs p.name), .int .i64 p.place, k, o]
/-- A slice that reads as a list of texts. -/
def PathRd (w : World) (P : Nat → Prop) (v : Value) (l : List Bs) : Prop :=
  ∃ A c, v = .slice A l.length c ∧ l.length ≤ c ∧ (l = [] ∨ ∃ b o, A = some ⟨b, o, none⟩ ∧ P b ∧ ∀ j, j < l.length → w.cell? ⟨b, o + j, none⟩ = (strs l)[j]?)
def PcRd (w : World) (P : Nat → Prop) (b off : Nat) (p : Pc) : Prop :=
  ∃ v, (∀ k, k < 6 → w.cell? ⟨b, off + k, none⟩ = (pcc p v)[k]?) ∧ PathRd w P v p.path
/-- A slice that reads as a list of pieces. -/
def PcsRd (w : World) (P : Nat → Prop) (v : Value) (ps : List Pc) : Prop :=
  ∃ A c, v = .slice A ps.length c ∧ ps.length ≤ c ∧ (ps = [] ∨ ∃ b o, A = some ⟨b, o, none⟩ ∧ P b ∧ ∀ i, i < ps.length → PcRd w P b (o + i * 6) (pcAt ps i))
mutual
def PtRd (w : World) (P : Nat → Prop) (b off : Nat) : Part → Prop
  | .mk p ks os => ∃ v Ak ck Ao co, (∀ k, k < 8 → w.cell? ⟨b, off + k, none⟩ = (ptc p v (.slice Ak ks.length ck) (.slice Ao os.length co))[k]?) ∧ PathRd w P v p.path ∧ ks.length ≤ ck ∧ os.length ≤ co ∧
      (ks = [] ∨ ∃ b' o', Ak = some ⟨b', o', none⟩ ∧ P b' ∧ LsRd w P b' o' ks) ∧ (os = [] ∨ ∃ b' o', Ao = some ⟨b', o', none⟩ ∧ P b' ∧ LsRd w P b' o' os)
def LsRd (w : World) (P : Nat → Prop) (b off : Nat) : List Part → Prop
  | [] => True
  | q :: r => PtRd w P b off q ∧ LsRd w P b (off + 8) r
end
/-- A slice that reads as a list of parts. -/
def VRd (w : World) (P : Nat → Prop) (v : Value) (ps : List Part) : Prop :=
  ∃ A c, v = .slice A ps.length c ∧ ps.length ≤ c ∧ (ps = [] ∨ ∃ b o, A = some ⟨b, o, none⟩ ∧ P b ∧ LsRd w P b o ps)

/-! ### Where the blocks are as they were -/
section
variable {w w' : World} {P P' : Nat → Prop}
theorem PathRd.frame {v : Value} {l : List Bs} (h : PathRd w P v l) (hb : ∀ b, P b → w'.heap[b]? = w.heap[b]?) (hp : ∀ b, P b → P' b) : PathRd w' P' v l := by
  obtain ⟨A, c, h1, h2, h3⟩ := h
  refine ⟨A, c, h1, h2, h3.imp id ?_⟩
  rintro ⟨b, o, h4, h5, h6⟩
  exact ⟨b, o, h4, hp b h5, fun j hj => (World.cell?_of_block (w := w) (a := ⟨b, o + j, none⟩) (hb b h5)).trans (h6 j hj)⟩
theorem PcRd.frame {b off : Nat} {p : Pc} (h : PcRd w P b off p) (hb : ∀ b, P b → w'.heap[b]? = w.heap[b]?) (hp : ∀ b, P b → P' b) (hB : P b) : PcRd w' P' b off p := by
  obtain ⟨v, h1, h2⟩ := h
  exact ⟨v, fun k hk => (World.cell?_of_block (w := w) (a := ⟨b, off + k, none⟩) (hb b hB)).trans (h1 k hk), h2.frame hb hp⟩
theorem PcsRd.frame {v : Value} {ps : List Pc} (h : PcsRd w P v ps) (hb : ∀ b, P b → w'.heap[b]? = w.heap[b]?) (hp : ∀ b, P b → P' b) : PcsRd w' P' v ps := by
  obtain ⟨A, c, h1, h2, h3⟩ := h
  refine ⟨A, c, h1, h2, h3.imp id ?_⟩
  rintro ⟨b, o, h4, h5, h6⟩
  exact ⟨b, o, h4, hp b h5, fun i hi => (h6 i hi).frame hb hp h5⟩
mutual
theorem PtRd.frame (hb : ∀ b, P b → w'.heap[b]? = w.heap[b]?) (hp : ∀ b, P b → P' b) : ∀ (q : Part) (b off : Nat), P b → PtRd w P b off q → PtRd w' P' b off q
  | .mk p ks os, b, off, hB, h => by
    unfold PtRd at h ⊢
    obtain ⟨v, Ak, ck, Ao, co, h1, h2, h3, h4, h5, h6⟩ := h
    refine ⟨v, Ak, ck, Ao, co, fun k hk => (World.cell?_of_block (w := w) (a := ⟨b, off + k, none⟩) (hb b hB)).trans (h1 k hk), h2.frame hb hp, h3, h4, h5.imp id ?_, h6.imp id ?_⟩
    · rintro ⟨b', o', e1, e2, e3⟩
      exact ⟨b', o', e1, hp b' e2, LsRd.frame hb hp ks b' o' e2 e3⟩
    · rintro ⟨b', o', e1, e2, e3⟩
      exact ⟨b', o', e1, hp b' e2, LsRd.frame hb hp os b' o' e2 e3⟩
theorem LsRd.frame (hb : ∀ b, P b → w'.heap[b]? = w.heap[b]?) (hp : ∀ b, P b → P' b) : ∀ (l : List Part) (b off : Nat), P b → LsRd w P b off l → LsRd w' P' b off l
  | [], _, _, _, _ => by unfold LsRd; trivial
  | q :: r, b, off, hB, h => by
    unfold LsRd at h ⊢
    exact ⟨PtRd.frame hb hp q b off hB h.1, LsRd.frame hb hp r b (off + 8) hB h.2⟩
end
theorem VRd.frame {v : Value} {ps : List Part} (h : VRd w P v ps) (hb : ∀ b, P b → w'.heap[b]? = w.heap[b]?) (hp : ∀ b, P b → P' b) : VRd w' P' v ps := by
  obtain ⟨A, c, h1, h2, h3⟩ := h
  refine ⟨A, c, h1, h2, h3.imp id ?_⟩
  rintro ⟨b, o, h4, h5, h6⟩
  exact ⟨b, o, h4, hp b h5, LsRd.frame hb hp ps b o h5 h6⟩
theorem VRd.nil : VRd w P (.slice none 0 0) [] := ⟨none, 0, rfl, Nat.le_refl _, .inl rfl⟩
theorem PcsRd.nil : PcsRd w P (.slice none 0 0) [] := ⟨none, 0, rfl, Nat.le_refl _, .inl rfl⟩
theorem PathRd.nil : PathRd w P (.slice none 0 0) [] := ⟨none, 0, rfl, Nat.le_refl _, .inl rfl⟩
end
theorem LsRd.at_ {w : World} {P : Nat → Prop} : ∀ (l : List Part) (b off i : Nat) (q : Part), LsRd w P b off l → l[i]? = some q → PtRd w P b (off + i * 8) q
  | [], _, _, i, q, _, hi => by simp at hi
  | x :: r, b, off, 0, q, h, hi => by
    unfold LsRd at h
    simp only [List.getElem?_cons_zero, Option.some.injEq] at hi
    subst hi
    simpa using h.1
  | x :: r, b, off, i + 1, q, h, hi => by
    unfold LsRd at h
    rw [List.getElem?_cons_succ] at hi
    have := LsRd.at_ r b (off + 8) i q h.2 hi
    rw [show off + (i + 1) * 8 = off + 8 + i * 8 from by omega]
    exact this
theorem LsRd.of_at {w : World} {P : Nat → Prop} : ∀ (l : List Part) (b off : Nat), (∀ i q, l[i]? = some q → PtRd w P b (off + i * 8) q) → LsRd w P b off l
  | [], _, _, _ => by unfold LsRd; trivial
  | x :: r, b, off, h => by
    unfold LsRd
    refine ⟨by simpa using h 0 x rfl, LsRd.of_at r b (off + 8) fun i q hi => ?_⟩
    have := h (i + 1) q (by simpa using hi)
    rw [show off + 8 + i * 8 = off + (i + 1) * 8 from by omega]
    exact this
/-- What is below keeps. -/
theorem VRd.below {w w' : World} {B : Nat} {P : Nat → Prop} {v : Value} {ps : List Part} (h : VRd w P v ps) (hb : Below B w w') (hP : ∀ b, P b → b < B) : VRd w' P v ps := h.frame (fun b hp => hb.block b (hP b hp)) (fun _ h => h)
theorem PcsRd.below {w w' : World} {B : Nat} {P : Nat → Prop} {v : Value} {ps : List Pc} (h : PcsRd w P v ps) (hb : Below B w w') (hP : ∀ b, P b → b < B) : PcsRd w' P v ps := h.frame (fun b hp => hb.block b (hP b hp)) (fun _ h => h)
theorem PathRd.below {w w' : World} {B : Nat} {P : Nat → Prop} {v : Value} {l : List Bs} (h : PathRd w P v l) (hb : Below B w w') (hP : ∀ b, P b → b < B) : PathRd w' P v l := h.frame (fun b hp => hb.block b (hP b hp)) (fun _ h => h)

/-! ### The lexer's pieces -/
def toPc (p : Piece) : Pc := ⟨p.kind, p.pos, p.text, p.path, p.name, p.place⟩
theorem PRow.pcs {w : World} {B : Nat} {v : Value} {ps : List Piece} (h : PRow w B v ps) (P : Nat → Prop) (hP : ∀ b, B ≤ b → b < w.heap.size → P b) : PcsRd w P v (ps.map toPc) := by
  obtain ⟨qs, e, ho, hp⟩ := h
  obtain ⟨A, c, rfl, hc, _⟩ := own_form ho
  refine ⟨A, c, by rw [List.length_map], by rw [List.length_map]; exact hc, ?_⟩
  by_cases h0 : ps = []
  · exact .inl (by rw [h0]; rfl)
  · have hpos : 0 < ps.length := List.length_pos_iff.2 h0
    obtain ⟨g, rfl, h1, h2⟩ := own_some ho hpos
    refine .inr ⟨g, 0, rfl, hP g h1 h2, fun i hi => ?_⟩
    rw [List.length_map] at hi
    have hql : qs.length = ps.length := by rw [← e, List.length_map]
    have hiq : i < qs.length := by omega
    have hqi : (qs[i]).1 = ps[i] := by simp [← e]
    have hpc : pcAt (ps.map toPc) i = toPc ps[i] := by
      unfold pcAt
      rw [List.getD_eq_getElem?_getD, List.getElem?_map, List.getElem?_eq_getElem hi]; rfl
    rw [hpc]
    have hrow := hp qs[i] (List.getElem_mem hiq)
    obtain ⟨A', c', hv, hc', _⟩ := own_form hrow
    refine ⟨(qs[i]).2, fun k hk => ?_, ?_⟩
    · rw [Nat.zero_add, ho.cellAt (i * 6 + k) (by have := Nat.mul_le_mul_right 6 (show i + 1 ≤ ps.length from hi); rw [Nat.add_mul] at this; omega)]
      have hfm : (qs.flatMap pcell)[i * 6 + k]? = (pcell qs[i])[k]? := pcells_at qs i k hiq hk
      rw [hfm]
      unfold pcell pcc toPc
      rw [hqi]
    · show PathRd w P (qs[i]).2 (ps[i]).path
      rw [hqi] at hrow hv hc'
      rw [hv] at hrow ⊢
      refine ⟨A', c', rfl, hc', ?_⟩
      by_cases hn : (ps[i]).path = []
      · exact .inl hn
      · obtain ⟨g', rfl, h3, h4⟩ := own_some hrow (List.length_pos_iff.2 hn)
        exact .inr ⟨g', 0, rfl, hP g' h3 h4, fun j hj => by rw [Nat.zero_add]; exact hrow.cellAt j (by omega)⟩
end Go.Proofs.YthilkpjdfjjikaaDoor
end
section
/-
  The document's comparison of two lists of pieces, where they are the same: whatever their numbers.
-/
namespace Go.Proofs.YthilkpjdfjjikaaDoor
open Go.RowKit

theorem PathRd.cell {w : World} {P : Nat → Prop} {A : Option Addr} {m c : Nat} {l : List Bs} (hm : m = l.length) (h : PathRd w P (.slice A m c) l) (k : Nat) (hk : k < m) : ∃ b o, A = some ⟨b, o, none⟩ ∧ w.cell? ⟨b, o + k, none⟩ = some (.string (bs (l.getD k []))) := by
  subst hm
  obtain ⟨A', c', e, hc, h3⟩ := h
  injection e with e1 e2 e3
  subst e1
  rcases h3 with rfl | ⟨b, o, h4, _, h6⟩
  · exact absurd hk (by simp)
  · exact ⟨b, o, h4, by rw [h6 k hk]; exact strs_at l k hk⟩
theorem PcsRd.cells {w : World} {P : Nat → Prop} {A : Option Addr} {n c : Nat} {ps : List Pc} (hn : n = ps.length) (h : PcsRd w P (.slice A n c) ps) (j : Nat) (hj : j < n) :
    ∃ b off A' c', A = some ⟨b, off, none⟩ ∧ P b ∧ (∀ k, k < 6 → w.cell? ⟨b, off + j * 6 + k, none⟩ = (pcc (pcAt ps j) (.slice A' (pcAt ps j).path.length c'))[k]?) ∧ (pcAt ps j).path.length ≤ c' ∧ PathRd w P (.slice A' (pcAt ps j).path.length c') (pcAt ps j).path := by
  subst hn
  obtain ⟨A', c', e, hc, h3⟩ := h
  injection e with e1 e2 e3
  subst e1
  rcases h3 with rfl | ⟨b, o, h4, h5, h6⟩
  · exact absurd hj (by simp)
  · obtain ⟨v, h7, h8⟩ := h6 j hj
    have h8' := h8
    obtain ⟨A2, c2, rfl, h9, _⟩ := h8
    exact ⟨b, o, A2, c2, h4, h5, h7, h9, h8'⟩
set_option maxHeartbeats 8000000 in
set_option maxRecDepth 100000 in
theorem sameI_any (ps : List Pc) (P P' : Nat → Prop) (v v' : Value) (w : World) (h : PcsRd w P v ps) (h' : PcsRd w P' v' ps) (hP : ∀ b, P b → b < w.heap.size) (hP' : ∀ b, P' b → b < w.heap.size) (hn : ps.length ≤ 100000000000000000) (hpth : ∀ p ∈ ps, p.path.length ≤ 100000000000000000) :
    Calls Tryd.prog 14 #[v, v'] w fun e w' => e = .returned (.bool true) ∧ Below w.heap.size w w' := by
  have hrd := h; have hrd' := h'
  obtain ⟨A, c, rfl, hc, _⟩ := h
  obtain ⟨A', c', rfl, hc', _⟩ := h'
  have hBB : w.heap.size ≤ w.heap.size := Nat.le_refl _
  have HPT := Lib.hid hpth; clear hpth
  have HPP := Lib.hid hP; have HPP' := Lib.hid hP'
  clear hP hP'
  obtain ⟨n, hne⟩ : ∃ n, n = ps.length := ⟨_, rfl⟩
  rw [← hne] at hn hc hc' hrd hrd' ⊢
  have Hn := Lib.hid hne; clear hne
  have H := Lib.hid hrd; have H' := Lib.hid hrd'
  clear hrd hrd'
  go_enter Tryd.func14, Tryd.ntmps14
  go_wp2_with fail
  go_loopw [16] (fun i wr => ∃ j : Nat, i = .int .i64 (j : Int) ∧ j ≤ n ∧ Below w.heap.size w wr) (fun i _ => n - (intOf i).toNat)
  case atStart => exact ⟨0, rfl, Nat.zero_le _, Below.refl _ _⟩
  case round =>
    obtain ⟨j, rfl, hj, hbr⟩ := hrel
    have hbs := hbr.size
    by_cases hjn : j < n
    · have tj : decide ((j : Int) < (n : Int)) = true := by rw [decide_eq_true_eq]; omega
      obtain ⟨b, off, PA, pc, rfl, hb, hcell, hpl, hrd⟩ := (H.out.below hbr HPP.out).cells Hn.out j hjn
      have e0 := hcell 0 (by decide); have e1 := hcell 1 (by decide); have e2 := hcell 2 (by decide); have e3 := hcell 3 (by decide); have e4 := hcell 4 (by decide); have e5 := hcell 5 (by decide)
      have HBR := Lib.hid hbr
      have hpb : (pcAt ps j).path.length ≤ 100000000000000000 := HPT.out _ (by unfold pcAt; rw [List.getD_eq_getElem?_getD, List.getElem?_eq_getElem (by rw [← Hn.out]; exact hjn)]; exact List.getElem_mem _)
      obtain ⟨p, hp⟩ : ∃ p, p = pcAt ps j := ⟨_, rfl⟩
      have hcells' := fun W (hb : Below w.heap.size w W) => (H'.out.below hb HPP'.out).cells Hn.out j hjn
      have hcells := fun W (hb : Below w.heap.size w W) => (H.out.below hb HPP.out).cells Hn.out j hjn
      simp only [← hp] at hcells' hcells e0 e1 e2 e3 e4 e5 hrd hpb
      clear hp
      have HC := Lib.hid hcells; have HC' := Lib.hid hcells'
      simp only [pcc, List.getElem?_cons_zero, List.getElem?_cons_succ, Nat.add_zero] at e0 e1 e2 e3 e4 e5
      have HRD := Lib.hid hrd
      clear hcell hcells hcells' hpl hbr hrd
      go_upto_region 6 with fail
      have hP1 := blk_new wr 35 #[.int .i64 p.kind, .int .i64 p.pos, .string (bs p.text), .slice PA p.path.length pc, .string (bs p.name), .int .i64 p.place]
      have hb1 : Below w.heap.size w (wr.alloc (.cells #[.int .i64 p.kind, .int .i64 p.pos, .string (bs p.text), .slice PA p.path.length pc, .string (bs p.name), .int .i64 p.place] 35)) := HBR.out.alloc hbs _
      obtain ⟨W1, hW1⟩ : ∃ W1, W1 = wr.alloc (.cells #[.int .i64 p.kind, .int .i64 p.pos, .string (bs p.text), .slice PA p.path.length pc, .string (bs p.name), .int .i64 p.place] 35) := ⟨_, rfl⟩
      rw [← hW1] at hP1 hb1 ⊢
      obtain ⟨b2, off2, PA2, pc2, rfl, hb2, hcell2, hpl2, hrd2⟩ := HC'.out W1 hb1
      have HRD2 := Lib.hid hrd2
      have hbr1 : Below wr.heap.size wr W1 := by rw [hW1]; exact (Below.refl _ wr).alloc (Nat.le_refl _) _
      have HBR1 := Lib.hid hbr1
      clear e0 e1 e2 e3 e4 e5 hW1
      have e0 := hcell2 0 (by decide); have e1 := hcell2 1 (by decide); have e2 := hcell2 2 (by decide); have e3 := hcell2 3 (by decide); have e4 := hcell2 4 (by decide); have e5 := hcell2 5 (by decide)
      simp only [pcc, List.getElem?_cons_zero, List.getElem?_cons_succ, Nat.add_zero] at e0 e1 e2 e3 e4 e5
      have HP1 := Lib.hid hP1; have HB1 := Lib.hid hb1
      have hbs1 := hb1.size
      clear hP1 hb1 hcell2 hrd2 hbr1
      go_upto_region 7 with fail
      have hP2 := blk_new W1 35 #[.int .i64 p.kind, .int .i64 p.pos, .string (bs p.text), .slice PA2 p.path.length pc2, .string (bs p.name), .int .i64 p.place]
      have hP1 : Blk (W1.alloc (.cells #[.int .i64 p.kind, .int .i64 p.pos, .string (bs p.text), .slice PA2 p.path.length pc2, .string (bs p.name), .int .i64 p.place] 35)) wr.heap.size 35 _ := blk_alloc HP1.out _
      have hbb : Below w.heap.size w (W1.alloc (.cells #[.int .i64 p.kind, .int .i64 p.pos, .string (bs p.text), .slice PA2 p.path.length pc2, .string (bs p.name), .int .i64 p.place] 35)) := HB1.out.alloc hbs1 _
      obtain ⟨W2, hW2⟩ : ∃ W2, W2 = W1.alloc (.cells #[.int .i64 p.kind, .int .i64 p.pos, .string (bs p.text), .slice PA2 p.path.length pc2, .string (bs p.name), .int .i64 p.place] 35) := ⟨_, rfl⟩
      have hb12 : Below W1.heap.size W1 W2 := by rw [hW2]; exact (Below.refl _ W1).alloc (Nat.le_refl _) _
      have HB12 := Lib.hid hb12
      rw [← hW2] at hP1 hP2 hbb ⊢
      clear e0 e1 e2 e3 e4 e5 hW2 hb12
      have p0 := blk_cell hP1 0; have p1 := blk_cell hP1 1; have p2 := blk_cell hP1 2; have p3 := blk_cell hP1 3; have p4 := blk_cell hP1 4; have p5 := blk_cell hP1 5
      have r0 := blk_cell hP2 0; have r1 := blk_cell hP2 1; have r2 := blk_cell hP2 2; have r3 := blk_cell hP2 3; have r4 := blk_cell hP2 4; have r5 := blk_cell hP2 5
      simp only [List.getElem?_cons_zero, List.getElem?_cons_succ] at p0 p1 p2 p3 p4 p5 r0 r1 r2 r3 r4 r5
      have HP1 := Lib.hid hP1; have HP2 := Lib.hid hP2; have HBB := Lib.hid hbb
      have hbs2 := hbb.size
      clear hP1 hP2 hbb
      have qt : ((bs p.text).toList != (bs p.text).toList) = false := by simp
      have qn : ((bs p.name).toList != (bs p.name).toList) = false := by simp
      go_wp2_with fail
      have hrdA := (HRD.out.below (HBR1.out.mono hbs) HPP.out).below (HB12.out.mono hbs1) HPP.out
      have hrdB := HRD2.out.below (HB12.out.mono hbs1) HPP'.out
      have HA := Lib.hid hrdA; have HB2 := Lib.hid hrdB
      clear hrdA hrdB p0 p1 p2 p4 p5 r0 r1 r2 r4 r5 p3 r3
      obtain ⟨m, hm⟩ : ∃ m, m = p.path.length := ⟨_, rfl⟩
      rw [← hm] at HP1 HP2 HA HB2 hpl2 hpb ⊢
      have HM := Lib.hid hm
      clear hm
      go_loopw [70] (fun i wx => ∃ k : Nat, i = .int .i64 (k : Int) ∧ k ≤ m ∧ Below W2.heap.size W2 wx) (fun i _ => m - (intOf i).toNat)
      case atStart => exact ⟨0, rfl, Nat.zero_le _, Below.refl _ _⟩
      case round =>
        obtain ⟨k, rfl, hk, hbx⟩ := hrel
        have HBX := Lib.hid hbx
        have hbxs := hbx.size
        have hq1 := blk_below HP1.out hbx (blk_lt HP1.out)
        have hq2 := blk_below HP2.out hbx (blk_lt HP2.out)
        have p3 := blk_cell hq1 3; have r3 := blk_cell hq2 3
        simp only [List.getElem?_cons_zero, List.getElem?_cons_succ] at p3 r3
        clear hbx hq1 hq2
        by_cases hkm : k < m
        · have tk : decide ((k : Int) < (m : Int)) = true := by rw [decide_eq_true_eq]; omega
          obtain ⟨b3, o3, rfl, s3⟩ := (HA.out.below (HBX.out.mono hbs2) HPP.out).cell HM.out k hkm
          obtain ⟨b4, o4, rfl, s4⟩ := (HB2.out.below (HBX.out.mono hbs2) HPP'.out).cell HM.out k hkm
          generalize bs (p.path.getD k []) = X at s3 s4
          have te : (X.toList != X.toList) = false := by simp
          have te2 : (X.toList == X.toList) = true := beq_self_eq_true _
          go_upto_region 12 with fail
          go_quiet (fail)
          go_wp2_with fail
          refine ⟨⟨k + 1, by go_num, by omega, ?_⟩, by simp [intOf]; omega⟩
          first | exact HBX.out | exact HBX.out.trans (drew_below _ _ _)
        · obtain rfl : k = m := by omega
          have tk : decide ((k : Int) < (k : Int)) = false := by rw [decide_eq_false_iff_not]; omega
          go_wp2_with fail
          refine ⟨⟨j + 1, by go_num, by omega, HBB.out.trans (HBX.out.mono hbs2)⟩, by simp [intOf]; omega⟩
    · obtain rfl : j = n := by omega
      have tj : decide ((j : Int) < (j : Int)) = false := by rw [decide_eq_false_iff_not]; omega
      go_wp2_with fail
      go_ret
      exact ⟨rfl, hbr⟩
end Go.Proofs.YthilkpjdfjjikaaDoor
end
