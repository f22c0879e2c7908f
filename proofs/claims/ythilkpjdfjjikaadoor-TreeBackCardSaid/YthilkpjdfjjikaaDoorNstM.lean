/-
  Texts of this seat, joined: Nst, Nsp. Each says what it proves, ahead of itself.
-/
import Derived.Test.YthilkpjdfjjikaaDoorTrdM
set_option linter.unusedVariables false
set_option linter.unusedSimpArgs false
section
/-
  The nester in memory: what is its own, and what becomes of it (no program in sight).
-/
namespace Go.Proofs.YthilkpjdfjjikaaDoor
open Go.RowKit

abbrev PV := Part × Value × Value × Value
def qcell (q : PV) : List Value := ptc q.1.pc q.2.1 q.2.2.1 q.2.2.2
theorem qcells_len : ∀ qs : List PV, (qs.flatMap qcell).length = qs.length * 8
  | [] => rfl
  | q :: qs => by rw [List.flatMap_cons, List.length_append, qcells_len qs, List.length_cons]; simp [qcell, ptc]; omega
theorem qcells_at : ∀ (qs : List PV) (i k : Nat) (q : PV), qs[i]? = some q → k < 8 → (qs.flatMap qcell)[i * 8 + k]? = (qcell q)[k]?
  | [], i, k, q, h, _ => by simp at h
  | x :: r, 0, k, q, h, hk => by
    simp only [List.getElem?_cons_zero, Option.some.injEq] at h
    subst h
    rw [List.flatMap_cons, Nat.zero_mul, Nat.zero_add, List.getElem?_append_left (by simpa [qcell, ptc] using hk)]
  | x :: r, i + 1, k, q, h, hk => by
    rw [List.flatMap_cons, List.getElem?_append_right (by simp [qcell, ptc]; omega), show (i + 1) * 8 + k - (qcell x).length = i * 8 + k from by simp [qcell, ptc]; omega]
    exact qcells_at r i k q (by simpa using h) hk
/-- A row of parts that is the call's own; what its parts hold is read. -/
def VOwn (w : World) (B : Nat) (P : Nat → Prop) (v : Value) (ps : List Part) : Prop :=
  ∃ qs : List PV, qs.map (·.1) = ps ∧ w.ownsRow B 74 8 v ps.length (qs.flatMap qcell) ∧ ∀ q ∈ qs, PathRd w P q.2.1 q.1.pc.path ∧ VRd w P q.2.2.1 q.1.kids ∧ VRd w P q.2.2.2 q.1.other
theorem VOwn.nil {w : World} {B : Nat} {P : Nat → Prop} : VOwn w B P (.slice none 0 0) [] := ⟨[], rfl, World.ownsRow_nil _ _ _ _, fun q hq => by simp at hq⟩
theorem ownsRow_heap {w w' : World} {B size n : Nat} {e : TypeId} {v : Value} {xs : List Value} (h : w.ownsRow B e size v n xs) (hb : ∀ k, v.ownBlock = some k → w'.heap[k]? = w.heap[k]?) : w'.ownsRow B e size v n xs := by
  refine ⟨h.1, ?_⟩
  rcases h.2 with hn | ⟨g, cap, cur, rfl, h1, h2, r⟩
  · exact .inl hn
  · exact .inr ⟨g, cap, cur, rfl, h1, by rw [hb g rfl]; exact h2, r⟩
theorem VOwn.frame {w w' : World} {B : Nat} {P P' : Nat → Prop} {v : Value} {ps : List Part} (h : VOwn w B P v ps) (ho : ∀ k, v.ownBlock = some k → w'.heap[k]? = w.heap[k]?) (hb : ∀ b, P b → w'.heap[b]? = w.heap[b]?) (hp : ∀ b, P b → P' b) : VOwn w' B P' v ps := by
  obtain ⟨qs, e, h1, h2⟩ := h
  exact ⟨qs, e, ownsRow_heap h1 ho, fun q hq => ⟨(h2 q hq).1.frame hb hp, (h2 q hq).2.1.frame hb hp, (h2 q hq).2.2.frame hb hp⟩⟩
theorem VOwn.form {w : World} {B : Nat} {P : Nat → Prop} {v : Value} {ps : List Part} (h : VOwn w B P v ps) : ∃ A c, v = .slice A ps.length c ∧ ps.length ≤ c := by
  obtain ⟨qs, e, ho, hp⟩ := h
  obtain ⟨A, c, h1, h2, _⟩ := own_form ho
  exact ⟨A, c, h1, h2⟩
theorem VOwn.own {w : World} {B : Nat} {P : Nat → Prop} {v : Value} {ps : List Part} (h : VOwn w B P v ps) (k : Nat) (hk : v.ownBlock = some k) : B ≤ k ∧ k < w.heap.size := by
  obtain ⟨qs, e, ho, hp⟩ := h
  exact ho.lt k hk
/-- It reads as its parts. -/
theorem VOwn.read {w : World} {B : Nat} {P P' : Nat → Prop} {v : Value} {ps : List Part} (h : VOwn w B P v ps) (hg : ∀ k, v.ownBlock = some k → P' k) (hp : ∀ b, P b → P' b) : VRd w P' v ps := by
  obtain ⟨qs, e, ho, h2⟩ := h
  obtain ⟨A, c, rfl, hc, _⟩ := own_form ho
  refine ⟨A, c, rfl, hc, ?_⟩
  by_cases hn : ps = []
  · exact .inl hn
  · obtain ⟨g, rfl, h3, h4⟩ := own_some ho (List.length_pos_iff.2 hn)
    refine .inr ⟨g, 0, rfl, hg g rfl, LsRd.of_at _ _ _ fun i q hi => ?_⟩
    have hiq : ∃ x, qs[i]? = some x ∧ x.1 = q := by
      rw [← e, List.getElem?_map] at hi
      cases hx : qs[i]? with
      | none => rw [hx] at hi; simp at hi
      | some x => rw [hx] at hi; exact ⟨x, rfl, by simpa using hi⟩
    obtain ⟨x, hx, rfl⟩ := hiq
    have hxm := List.mem_of_getElem? hx
    obtain ⟨r1, r2, r3⟩ := h2 x hxm
    have hil : i < ps.length := (List.getElem?_eq_some_iff.1 hi).1
    have hcell : ∀ k, k < 8 → w.cell? ⟨g, 0 + i * 8 + k, none⟩ = (qcell x)[k]? := by
      intro k hk
      rw [Nat.zero_add, ho.cellAt (i * 8 + k) (by have := Nat.mul_le_mul_right 8 (show i + 1 ≤ ps.length from hil); rw [Nat.add_mul] at this; omega), qcells_at qs i k x hx hk]
    obtain ⟨q, pv, kv, ov⟩ := x
    cases q with
    | mk p ks os =>
      unfold PtRd
      have r1 : PathRd w P pv p.path := r1
      have r2 : VRd w P kv ks := r2
      have r3 : VRd w P ov os := r3
      have r2' := r2.frame (w' := w) (fun _ _ => rfl) hp
      have r3' := r3.frame (w' := w) (fun _ _ => rfl) hp
      obtain ⟨Ak, ck, rfl, l1, l2⟩ := r2'
      obtain ⟨Ao, co, rfl, l3, l4⟩ := r3'
      exact ⟨pv, Ak, ck, Ao, co, hcell, r1.frame (fun _ _ => rfl) hp, l1, l3, l2, l4⟩
/-- One part more. -/
theorem VOwn.pushed {w w' : World} {B : Nat} {P P' : Nat → Prop} {v' : Value} {ps : List Part} (qs : List PV) (e : qs.map (·.1) = ps) (h2 : ∀ q ∈ qs, PathRd w P q.2.1 q.1.pc.path ∧ VRd w P q.2.2.1 q.1.kids ∧ VRd w P q.2.2.2 q.1.other)
    (hb : ∀ b, P b → w'.heap[b]? = w.heap[b]?) (hp : ∀ b, P b → P' b) (p : Pc) (ks os : List Part) (pv kv ov : Value) (r1 : PathRd w P pv p.path) (r2 : VRd w P kv ks) (r3 : VRd w P ov os)
    (ho' : w'.ownsRow B 74 8 v' (ps.length + 1) (qs.flatMap qcell ++ ptc p pv kv ov)) : VOwn w' B P' v' (ps ++ [.mk p ks os]) := by
  refine ⟨qs ++ [(.mk p ks os, pv, kv, ov)], by rw [List.map_append, e]; rfl, ?_, ?_⟩
  · rw [List.length_append, List.length_singleton, List.flatMap_append, List.flatMap_singleton]
    exact ho'
  · intro q hq
    rcases List.mem_append.1 hq with hq | hq
    · exact ⟨(h2 q hq).1.frame hb hp, (h2 q hq).2.1.frame hb hp, (h2 q hq).2.2.frame hb hp⟩
    · rw [List.mem_singleton.1 hq]
      exact ⟨r1.frame hb hp, r2.frame hb hp, r3.frame hb hp⟩

/-! ### The nester -/
structure FrM where
  fr : Fr
  b : Nat
  pv : Value
  kv : Value
  ov : Value
def ownL (v : Value) : List Nat := v.ownBlock.toList
theorem mem_ownL {v : Value} {k : Nat} : k ∈ ownL v ↔ v.ownBlock = some k := by unfold ownL; simp
def FrM.fb (x : FrM) : List Nat := x.b :: (ownL x.kv ++ ownL x.ov)
def fbN (N : Nat) (outV openV : Value) (fs : List FrM) : List Nat := N :: (ownL outV ++ (ownL openV ++ fs.flatMap FrM.fb))
def PN (w : World) (L : List Nat) (b : Nat) : Prop := b < w.heap.size ∧ b ∉ L
def frCells (x : FrM) : List Value := [.int .i64 x.fr.p.kind, .int .i64 x.fr.p.pos, .string (bs x.fr.p.text), x.pv, .string (bs x.fr.p.name), .int .i64 x.fr.p.place, x.kv, x.ov, .bool x.fr.flag]
def FrOk (w : World) (B : Nat) (L : List Nat) (x : FrM) : Prop :=
  Blk w x.b 98 (frCells x) ∧ PathRd w (PN w L) x.pv x.fr.p.path ∧ VOwn w B (PN w L) x.kv x.fr.kids ∧ VOwn w B (PN w L) x.ov x.fr.other
def openCells (fs : List FrM) : List Value := fs.reverse.map fun x => .iface 95 (.pointer (some ⟨x.b, 0, none⟩))
structure NI (w : World) (B N : Nat) (outV openV : Value) (fs : List FrM) (out : List Part) : Prop where
  nodup : (fbN N outV openV fs).Nodup
  lt : ∀ k ∈ fbN N outV openV fs, B ≤ k ∧ k < w.heap.size
  blk : Blk w N 78 [outV, openV]
  out : VOwn w B (PN w (fbN N outV openV fs)) outV out
  op : w.ownsRow B 20 1 openV fs.length (openCells fs)
  fr : ∀ x ∈ fs, FrOk w B (fbN N outV openV fs) x
/-- Where all blocks are as they were. -/
theorem NI.keep {w w' : World} {B N : Nat} {outV openV : Value} {fs : List FrM} {out : List Part} (h : NI w B N outV openV fs out) (hb : Below w.heap.size w w') : NI w' B N outV openV fs out := by
  have hk : ∀ k ∈ fbN N outV openV fs, w'.heap[k]? = w.heap[k]? := fun k hk => hb.block k (h.lt k hk).2
  have hP : ∀ b, PN w (fbN N outV openV fs) b → w'.heap[b]? = w.heap[b]? := fun b hb' => hb.block b hb'.1
  have hPP : ∀ b, PN w (fbN N outV openV fs) b → PN w' (fbN N outV openV fs) b := fun b hb' => ⟨Nat.lt_of_lt_of_le hb'.1 hb.size, hb'.2⟩
  refine ⟨h.nodup, fun k hk' => ⟨(h.lt k hk').1, Nat.lt_of_lt_of_le (h.lt k hk').2 hb.size⟩, ?_, h.out.frame (fun k e => hk k ?_) hP hPP, ownsRow_heap h.op (fun k e => hk k ?_), fun x hx => ?_⟩
  · have := hk N (by simp [fbN])
    unfold Blk; rw [this]; exact h.blk
  · simp only [fbN, List.mem_cons, List.mem_append, mem_ownL]; exact .inr (.inl e)
  · simp only [fbN, List.mem_cons, List.mem_append, mem_ownL]; exact .inr (.inr (.inl e))
  · obtain ⟨h1, h2, h3, h4⟩ := h.fr x hx
    have hm : ∀ k, k ∈ x.fb → w'.heap[k]? = w.heap[k]? := fun k hk' => hk k (by
      simp only [fbN, List.mem_cons, List.mem_append, List.mem_flatMap]; exact .inr (.inr (.inr ⟨x, hx, hk'⟩)))
    refine ⟨?_, h2.frame hP hPP, h3.frame (fun k e => hm k ?_) hP hPP, h4.frame (fun k e => hm k ?_) hP hPP⟩
    · unfold Blk; rw [hm x.b (by simp [FrM.fb])]; exact h1
    · simp only [FrM.fb, List.mem_cons, List.mem_append, mem_ownL]; exact .inr (.inl e)
    · simp only [FrM.fb, List.mem_cons, List.mem_append, mem_ownL]; exact .inr (.inr e)
/-- A row that grew: its block is the old one, or new. -/
def GrewTo (w : World) (v : Value) (g : Nat) : Prop := v.ownBlock = some g ∨ w.heap.size ≤ g
/-- The outermost parts, one more. -/
theorem NI.put_out {w w' : World} {B N : Nat} {outV openV : Value} {out : List Part} (h : NI w B N outV openV [] out) (p : Pc) (ks os : List Part) (pv kv ov : Value)
    (r1 : PathRd w (PN w (fbN N outV openV [])) pv p.path) (r2 : VRd w (PN w (fbN N outV openV [])) kv ks) (r3 : VRd w (PN w (fbN N outV openV [])) ov os)
    (qs : List PV) (e : qs.map (·.1) = out) (hq : ∀ q ∈ qs, PathRd w (PN w (fbN N outV openV [])) q.2.1 q.1.pc.path ∧ VRd w (PN w (fbN N outV openV [])) q.2.2.1 q.1.kids ∧ VRd w (PN w (fbN N outV openV [])) q.2.2.2 q.1.other)
    (g cap : Nat) (hs : w.heap.size ≤ w'.heap.size) (hE : ∀ k, k < w.heap.size → k ≠ N → outV.ownBlock ≠ some k → w'.heap[k]? = w.heap[k]?)
    (hB : B ≤ w.heap.size) (hg : GrewTo w outV g) (hgl : g < w'.heap.size) (hblk : Blk w' N 78 [.slice (some ⟨g, 0, none⟩) (out.length + 1) cap, openV])
    (ho : w'.ownsRow B 74 8 (.slice (some ⟨g, 0, none⟩) (out.length + 1) cap) (out.length + 1) (qs.flatMap qcell ++ ptc p pv kv ov)) :
    NI w' B N (.slice (some ⟨g, 0, none⟩) (out.length + 1) cap) openV [] (out ++ [.mk p ks os]) := by
  have hnd := h.nodup
  have hlt := h.lt
  have hown : (Value.slice (some ⟨g, 0, none⟩) (out.length + 1) cap).ownBlock = some g := rfl
  unfold GrewTo at hg
  have hP : ∀ b, PN w (fbN N outV openV []) b → w'.heap[b]? = w.heap[b]? := by
    intro b hb
    obtain ⟨h1, h2⟩ := hb
    simp only [fbN, List.mem_cons, List.mem_append, mem_ownL] at h2
    exact hE b h1 (fun e => h2 (.inl e)) (fun e => h2 (.inr (.inl e)))
  have hPP : ∀ b, PN w (fbN N outV openV []) b → PN w' (fbN N (.slice (some ⟨g, 0, none⟩) (out.length + 1) cap) openV []) b := by
    intro b hb
    obtain ⟨h1, h2⟩ := hb
    refine ⟨Nat.lt_of_lt_of_le h1 hs, ?_⟩
    simp only [fbN, List.mem_cons, List.mem_append, mem_ownL, hown, Option.some.injEq] at h2 ⊢
    grind
  refine ⟨?_, ?_, hblk, VOwn.pushed qs e hq hP hPP p ks os pv kv ov r1 r2 r3 ho, ownsRow_heap h.op (fun k e => hE k ?_ ?_ ?_), fun x hx => by simp at hx⟩
  · simp only [fbN, ownL, hown, Option.toList_some, List.flatMap_nil, List.append_nil, List.nodup_cons, List.nodup_append, List.mem_append, List.mem_cons, Option.mem_toList] at hnd hlt ⊢
    grind
  · intro k hk
    simp only [fbN, List.mem_cons, List.mem_append, mem_ownL, hown, Option.some.injEq] at hk hlt
    grind
  · exact (hlt k (by simp only [fbN, List.mem_cons, List.mem_append, mem_ownL]; exact .inr (.inr (.inl e)))).2
  · simp only [fbN, ownL, List.flatMap_nil, List.append_nil, List.nodup_cons, List.nodup_append, List.mem_append, Option.mem_toList] at hnd
    grind
  · simp only [fbN, ownL, List.flatMap_nil, List.append_nil, List.nodup_cons, List.nodup_append, List.mem_append, Option.mem_toList] at hnd
    grind
end Go.Proofs.YthilkpjdfjjikaaDoor
end
section
/-
  The nester in memory: a part put among a block's parts.
-/
namespace Go.Proofs.YthilkpjdfjjikaaDoor
open Go.RowKit

theorem mem_kv {N b g k : Nat} {A O K V R : List Nat} (h : k ∈ (N :: (A ++ (O ++ (b :: ([g] ++ V) ++ R))))) : k = g ∨ k ∈ (N :: (A ++ (O ++ (b :: (K ++ V) ++ R)))) := by
  simp only [List.mem_append, List.mem_cons] at *
  grind
theorem nodup_kv {N b g H : Nat} {A O K V R : List Nat} (h : (N :: (A ++ (O ++ (b :: (K ++ V) ++ R)))).Nodup) (hl : ∀ k ∈ (N :: (A ++ (O ++ (b :: (K ++ V) ++ R)))), k < H) (hg : K = [g] ∨ H ≤ g) :
    (N :: (A ++ (O ++ (b :: ([g] ++ V) ++ R)))).Nodup := by
  simp only [List.nodup_cons, List.nodup_append, List.mem_append, List.mem_cons] at *
  grind
theorem mem_ov {N b g k : Nat} {A O K V R : List Nat} (h : k ∈ (N :: (A ++ (O ++ (b :: (K ++ [g]) ++ R))))) : k = g ∨ k ∈ (N :: (A ++ (O ++ (b :: (K ++ V) ++ R)))) := by
  simp only [List.mem_append, List.mem_cons] at *
  grind
theorem nodup_ov {N b g H : Nat} {A O K V R : List Nat} (h : (N :: (A ++ (O ++ (b :: (K ++ V) ++ R)))).Nodup) (hl : ∀ k ∈ (N :: (A ++ (O ++ (b :: (K ++ V) ++ R)))), k < H) (hg : V = [g] ∨ H ≤ g) :
    (N :: (A ++ (O ++ (b :: (K ++ [g]) ++ R)))).Nodup := by
  simp only [List.nodup_cons, List.nodup_append, List.mem_append, List.mem_cons] at *
  grind
/-- A block's kids, one more. -/
theorem NI.put_kids {w w' : World} {B N : Nat} {outV openV : Value} {x : FrM} {r : List FrM} {out : List Part} (h : NI w B N outV openV (x :: r) out) (p : Pc) (ks os : List Part) (pv kv ov : Value)
    (r1 : PathRd w (PN w (fbN N outV openV (x :: r))) pv p.path) (r2 : VRd w (PN w (fbN N outV openV (x :: r))) kv ks) (r3 : VRd w (PN w (fbN N outV openV (x :: r))) ov os)
    (qs : List PV) (e : qs.map (·.1) = x.fr.kids) (hq : ∀ q ∈ qs, PathRd w (PN w (fbN N outV openV (x :: r))) q.2.1 q.1.pc.path ∧ VRd w (PN w (fbN N outV openV (x :: r))) q.2.2.1 q.1.kids ∧ VRd w (PN w (fbN N outV openV (x :: r))) q.2.2.2 q.1.other)
    (g cap : Nat) (hs : w.heap.size ≤ w'.heap.size) (hE : ∀ k, k < w.heap.size → k ≠ x.b → x.kv.ownBlock ≠ some k → w'.heap[k]? = w.heap[k]?)
    (hB : B ≤ w.heap.size) (hg : GrewTo w x.kv g) (hgl : g < w'.heap.size) (x' : FrM) (hx' : x' = ⟨⟨x.fr.p, x.fr.kids ++ [.mk p ks os], x.fr.other, x.fr.flag⟩, x.b, x.pv, .slice (some ⟨g, 0, none⟩) (x.fr.kids.length + 1) cap, x.ov⟩)
    (hblk : Blk w' x.b 98 (frCells x'))
    (ho : w'.ownsRow B 74 8 (.slice (some ⟨g, 0, none⟩) (x.fr.kids.length + 1) cap) (x.fr.kids.length + 1) (qs.flatMap qcell ++ ptc p pv kv ov)) :
    NI w' B N outV openV (x' :: r) out := by
  have hnd := h.nodup
  have hlt := h.lt
  have hxb : x'.b = x.b := by rw [hx']
  have hfb : x'.fb = x.b :: ([g] ++ ownL x.ov) := by rw [hx']; rfl
  unfold GrewTo at hg
  have hC : ∀ k, k < w.heap.size → k ∉ x.b :: ownL x.kv → w'.heap[k]? = w.heap[k]? := by
    intro k h1 h2
    simp only [List.mem_cons, mem_ownL] at h2
    exact hE k h1 (fun e => h2 (.inl e)) (fun e => h2 (.inr e))
  have hP : ∀ b, PN w (fbN N outV openV (x :: r)) b → w'.heap[b]? = w.heap[b]? := by
    intro b hb
    obtain ⟨h1, h2⟩ := hb
    refine hC b h1 ?_
    simp only [fbN, FrM.fb, List.flatMap_cons, List.mem_cons, List.mem_append] at h2 ⊢
    grind
  have hPP : ∀ b, PN w (fbN N outV openV (x :: r)) b → PN w' (fbN N outV openV (x' :: r)) b := by
    intro b hb
    obtain ⟨h1, h2⟩ := hb
    refine ⟨Nat.lt_of_lt_of_le h1 hs, ?_⟩
    simp only [fbN, hfb, List.flatMap_cons, List.mem_cons, List.mem_append, List.mem_nil_iff, or_false] at h2 ⊢
    simp only [FrM.fb, List.mem_cons, List.mem_append, mem_ownL] at h2
    simp only [mem_ownL]
    grind
  have hkeep : ∀ k ∈ fbN N outV openV (x :: r), k ∉ x.b :: ownL x.kv → w'.heap[k]? = w.heap[k]? := fun k hk hn => hC k (hlt k hk).2 hn
  have hnd2 := hnd
  simp only [fbN, FrM.fb, List.flatMap_cons, List.nodup_cons, List.nodup_append, List.mem_append, List.mem_cons, List.cons_append] at hnd2
  obtain ⟨f1, f2, f3, f4⟩ := h.fr x (List.mem_cons_self ..)
  refine ⟨?_, ?_, ?_, ?_, ?_, ?_⟩
  · have hgf : ownL x.kv = [g] ∨ w.heap.size ≤ g := hg.imp (fun e => by unfold ownL; rw [e]; rfl) id
    have hlt2 : ∀ k, k ∈ fbN N outV openV (x :: r) → k < w.heap.size := fun k hk => (hlt k hk).2
    unfold fbN
    rw [List.flatMap_cons, hfb]
    unfold fbN at hnd hlt2
    rw [List.flatMap_cons] at hnd hlt2
    exact nodup_kv hnd hlt2 hgf
  · intro k hk
    have hgf : k = g ∨ k ∈ fbN N outV openV (x :: r) := by
      unfold fbN at hk ⊢
      rw [List.flatMap_cons] at hk ⊢
      rw [hfb] at hk
      exact mem_kv hk
    rcases hgf with rfl | hgf
    · refine ⟨?_, hgl⟩
      rcases hg with hg | hg
      · exact (hlt k (by simp only [fbN, FrM.fb, List.flatMap_cons, List.mem_cons, List.mem_append, mem_ownL]; grind)).1
      · omega
    · exact ⟨(hlt k hgf).1, Nat.lt_of_lt_of_le (hlt k hgf).2 hs⟩
  · have hn : N ∉ x.b :: ownL x.kv := by simp only [List.mem_cons]; grind
    unfold Blk
    rw [hkeep N (by simp [fbN]) hn]
    exact h.blk
  · refine h.out.frame (fun k ek => hkeep k ?_ ?_) hP hPP
    · simp only [fbN, List.mem_cons, List.mem_append, mem_ownL]; exact .inr (.inl ek)
    · have hk : k ∈ ownL outV := mem_ownL.2 ek
      simp only [List.mem_cons]
      grind
  · have e2 : openCells (x' :: r) = openCells (x :: r) := by unfold openCells; rw [List.reverse_cons, List.reverse_cons, List.map_append, List.map_append, List.map_singleton, List.map_singleton, hxb]
    rw [e2]
    refine ownsRow_heap h.op (fun k ek => hkeep k ?_ ?_)
    · simp only [fbN, List.mem_cons, List.mem_append, mem_ownL]; exact .inr (.inr (.inl ek))
    · have hk : k ∈ ownL openV := mem_ownL.2 ek
      simp only [List.mem_cons]
      grind
  · intro y hy
    rcases List.mem_cons.1 hy with rfl | hy
    · have hown := VOwn.pushed qs e hq hP hPP p ks os pv kv ov r1 r2 r3 ho
      have hoth := f4.frame (w' := w') (P' := PN w' (fbN N outV openV (y :: r))) (fun k ek => hkeep k (by simp only [fbN, FrM.fb, List.flatMap_cons, List.mem_cons, List.mem_append, mem_ownL]; grind) (by have hk := mem_ownL.2 ek; simp only [List.mem_cons]; grind)) hP hPP
      have hpath := f2.frame (w' := w') (P' := PN w' (fbN N outV openV (y :: r))) hP hPP
      rw [hxb.symm] at hblk
      subst hx'
      exact ⟨hblk, hpath, hown, hoth⟩
    · obtain ⟨g1, g2, g3, g4⟩ := h.fr y (List.mem_cons_of_mem _ hy)
      have hm : ∀ k, k ∈ y.fb → k ∈ r.flatMap FrM.fb := fun k hk => List.mem_flatMap.2 ⟨y, hy, hk⟩
      have hk2 : ∀ k, k ∈ y.fb → w'.heap[k]? = w.heap[k]? := fun k hk => hkeep k (by simp only [fbN, List.flatMap_cons, List.mem_cons, List.mem_append]; exact .inr (.inr (.inr (.inr (hm k hk))))) (by have := hm k hk; simp only [List.mem_cons]; grind)
      refine ⟨?_, g2.frame hP hPP, g3.frame (fun k ek => hk2 k ?_) hP hPP, g4.frame (fun k ek => hk2 k ?_) hP hPP⟩
      · unfold Blk; rw [hk2 y.b (by simp [FrM.fb])]; exact g1
      · simp only [FrM.fb, List.mem_cons, List.mem_append, mem_ownL]; exact .inr (.inl ek)
      · simp only [FrM.fb, List.mem_cons, List.mem_append, mem_ownL]; exact .inr (.inr ek)
/-- A block's other, one more. -/
theorem NI.put_other {w w' : World} {B N : Nat} {outV openV : Value} {x : FrM} {r : List FrM} {out : List Part} (h : NI w B N outV openV (x :: r) out) (p : Pc) (ks os : List Part) (pv kv ov : Value)
    (r1 : PathRd w (PN w (fbN N outV openV (x :: r))) pv p.path) (r2 : VRd w (PN w (fbN N outV openV (x :: r))) kv ks) (r3 : VRd w (PN w (fbN N outV openV (x :: r))) ov os)
    (qs : List PV) (e : qs.map (·.1) = x.fr.other) (hq : ∀ q ∈ qs, PathRd w (PN w (fbN N outV openV (x :: r))) q.2.1 q.1.pc.path ∧ VRd w (PN w (fbN N outV openV (x :: r))) q.2.2.1 q.1.kids ∧ VRd w (PN w (fbN N outV openV (x :: r))) q.2.2.2 q.1.other)
    (g cap : Nat) (hs : w.heap.size ≤ w'.heap.size) (hE : ∀ k, k < w.heap.size → k ≠ x.b → x.ov.ownBlock ≠ some k → w'.heap[k]? = w.heap[k]?)
    (hB : B ≤ w.heap.size) (hg : GrewTo w x.ov g) (hgl : g < w'.heap.size) (x' : FrM) (hx' : x' = ⟨⟨x.fr.p, x.fr.kids, x.fr.other ++ [.mk p ks os], x.fr.flag⟩, x.b, x.pv, x.kv, .slice (some ⟨g, 0, none⟩) (x.fr.other.length + 1) cap⟩)
    (hblk : Blk w' x.b 98 (frCells x'))
    (ho : w'.ownsRow B 74 8 (.slice (some ⟨g, 0, none⟩) (x.fr.other.length + 1) cap) (x.fr.other.length + 1) (qs.flatMap qcell ++ ptc p pv kv ov)) :
    NI w' B N outV openV (x' :: r) out := by
  have hnd := h.nodup
  have hlt := h.lt
  have hxb : x'.b = x.b := by rw [hx']
  have hfb : x'.fb = x.b :: (ownL x.kv ++ [g]) := by rw [hx']; rfl
  unfold GrewTo at hg
  have hC : ∀ k, k < w.heap.size → k ∉ x.b :: ownL x.ov → w'.heap[k]? = w.heap[k]? := by
    intro k h1 h2
    simp only [List.mem_cons, mem_ownL] at h2
    exact hE k h1 (fun e => h2 (.inl e)) (fun e => h2 (.inr e))
  have hP : ∀ b, PN w (fbN N outV openV (x :: r)) b → w'.heap[b]? = w.heap[b]? := by
    intro b hb
    obtain ⟨h1, h2⟩ := hb
    refine hC b h1 ?_
    simp only [fbN, FrM.fb, List.flatMap_cons, List.mem_cons, List.mem_append] at h2 ⊢
    grind
  have hPP : ∀ b, PN w (fbN N outV openV (x :: r)) b → PN w' (fbN N outV openV (x' :: r)) b := by
    intro b hb
    obtain ⟨h1, h2⟩ := hb
    refine ⟨Nat.lt_of_lt_of_le h1 hs, ?_⟩
    simp only [fbN, hfb, List.flatMap_cons, List.mem_cons, List.mem_append, List.mem_nil_iff, or_false] at h2 ⊢
    simp only [FrM.fb, List.mem_cons, List.mem_append, mem_ownL] at h2
    simp only [mem_ownL]
    grind
  have hkeep : ∀ k ∈ fbN N outV openV (x :: r), k ∉ x.b :: ownL x.ov → w'.heap[k]? = w.heap[k]? := fun k hk hn => hC k (hlt k hk).2 hn
  have hnd2 := hnd
  simp only [fbN, FrM.fb, List.flatMap_cons, List.nodup_cons, List.nodup_append, List.mem_append, List.mem_cons, List.cons_append] at hnd2
  obtain ⟨f1, f2, f3, f4⟩ := h.fr x (List.mem_cons_self ..)
  refine ⟨?_, ?_, ?_, ?_, ?_, ?_⟩
  · have hgf : ownL x.ov = [g] ∨ w.heap.size ≤ g := hg.imp (fun e => by unfold ownL; rw [e]; rfl) id
    have hlt2 : ∀ k, k ∈ fbN N outV openV (x :: r) → k < w.heap.size := fun k hk => (hlt k hk).2
    unfold fbN
    rw [List.flatMap_cons, hfb]
    unfold fbN at hnd hlt2
    rw [List.flatMap_cons] at hnd hlt2
    exact nodup_ov hnd hlt2 hgf
  · intro k hk
    have hgf : k = g ∨ k ∈ fbN N outV openV (x :: r) := by
      unfold fbN at hk ⊢
      rw [List.flatMap_cons] at hk ⊢
      rw [hfb] at hk
      exact mem_ov hk
    rcases hgf with rfl | hgf
    · refine ⟨?_, hgl⟩
      rcases hg with hg | hg
      · exact (hlt k (by simp only [fbN, FrM.fb, List.flatMap_cons, List.mem_cons, List.mem_append, mem_ownL]; grind)).1
      · omega
    · exact ⟨(hlt k hgf).1, Nat.lt_of_lt_of_le (hlt k hgf).2 hs⟩
  · have hn : N ∉ x.b :: ownL x.ov := by simp only [List.mem_cons]; grind
    unfold Blk
    rw [hkeep N (by simp [fbN]) hn]
    exact h.blk
  · refine h.out.frame (fun k ek => hkeep k ?_ ?_) hP hPP
    · simp only [fbN, List.mem_cons, List.mem_append, mem_ownL]; exact .inr (.inl ek)
    · have hk : k ∈ ownL outV := mem_ownL.2 ek
      simp only [List.mem_cons]
      grind
  · have e2 : openCells (x' :: r) = openCells (x :: r) := by unfold openCells; rw [List.reverse_cons, List.reverse_cons, List.map_append, List.map_append, List.map_singleton, List.map_singleton, hxb]
    rw [e2]
    refine ownsRow_heap h.op (fun k ek => hkeep k ?_ ?_)
    · simp only [fbN, List.mem_cons, List.mem_append, mem_ownL]; exact .inr (.inr (.inl ek))
    · have hk : k ∈ ownL openV := mem_ownL.2 ek
      simp only [List.mem_cons]
      grind
  · intro y hy
    rcases List.mem_cons.1 hy with rfl | hy
    · have hown := VOwn.pushed qs e hq hP hPP p ks os pv kv ov r1 r2 r3 ho
      have hoth := f3.frame (w' := w') (P' := PN w' (fbN N outV openV (y :: r))) (fun k ek => hkeep k (by simp only [fbN, FrM.fb, List.flatMap_cons, List.mem_cons, List.mem_append, mem_ownL]; grind) (by have hk := mem_ownL.2 ek; simp only [List.mem_cons]; grind)) hP hPP
      have hpath := f2.frame (w' := w') (P' := PN w' (fbN N outV openV (y :: r))) hP hPP
      rw [hxb.symm] at hblk
      subst hx'
      exact ⟨hblk, hpath, hoth, hown⟩
    · obtain ⟨g1, g2, g3, g4⟩ := h.fr y (List.mem_cons_of_mem _ hy)
      have hm : ∀ k, k ∈ y.fb → k ∈ r.flatMap FrM.fb := fun k hk => List.mem_flatMap.2 ⟨y, hy, hk⟩
      have hk2 : ∀ k, k ∈ y.fb → w'.heap[k]? = w.heap[k]? := fun k hk => hkeep k (by simp only [fbN, List.flatMap_cons, List.mem_cons, List.mem_append]; exact .inr (.inr (.inr (.inr (hm k hk))))) (by have := hm k hk; simp only [List.mem_cons]; grind)
      refine ⟨?_, g2.frame hP hPP, g3.frame (fun k ek => hk2 k ?_) hP hPP, g4.frame (fun k ek => hk2 k ?_) hP hPP⟩
      · unfold Blk; rw [hk2 y.b (by simp [FrM.fb])]; exact g1
      · simp only [FrM.fb, List.mem_cons, List.mem_append, mem_ownL]; exact .inr (.inl ek)
      · simp only [FrM.fb, List.mem_cons, List.mem_append, mem_ownL]; exact .inr (.inr ek)
end Go.Proofs.YthilkpjdfjjikaaDoor
end
