/-
  Texts of this seat, joined: Nsq, Nla. Each says what it proves, ahead of itself.
-/
import Derived.Deep.RegionHeld3
import Derived.Deep.DrawnRows
import Derived.BigQuiet
import Derived.RegionTactic
import Derived.BigRegion
import Derived.IntWalk
import Derived.Test.YthilkpjdfjjikaaDoorNstM
set_option linter.unusedVariables false
set_option linter.unusedSimpArgs false
section
/-
  The nester in memory: a block opened, turned to its else, closed.
-/
namespace Go.Proofs.YthilkpjdfjjikaaDoor
open Go.RowKit

theorem openCells_cons (x : FrM) (r : List FrM) : openCells (x :: r) = openCells r ++ [.iface 95 (.pointer (some ⟨x.b, 0, none⟩))] := by
  unfold openCells; rw [List.reverse_cons, List.map_append, List.map_singleton]
theorem openCells_len (fs : List FrM) : (openCells fs).length = fs.length := by unfold openCells; rw [List.length_map, List.length_reverse]
theorem own_less {w : World} {B size n g cap : Nat} {e : TypeId} {xs ys : List Value} (h : w.ownsRow B e size (.slice (some ⟨g, 0, none⟩) (n + 1) cap) (n + 1) (xs ++ ys)) (hx : xs.length = n * size) : w.ownsRow B e size (.slice (some ⟨g, 0, none⟩) n cap) n xs := by
  refine ⟨hx, ?_⟩
  rcases h.2 with ⟨h', _⟩ | ⟨g', cap', cur, h', h1, h2, h3, h4, h5, h6⟩
  · simp at h'
  · injection h' with e1 _ e2
    injection e1 with e1
    injection e1 with e1
    subst e1 e2
    refine .inr ⟨_, _, cur, rfl, h1, h2, by omega, h4, h5, ?_⟩
    have := congrArg (List.take (n * size)) h6
    rw [List.take_take, Nat.min_eq_left (by rw [Nat.add_mul]; omega), List.take_append_of_le_length (Nat.le_of_eq hx.symm), List.take_of_length_le (Nat.le_of_eq hx)] at this
    exact this
theorem blk_at {w w' : World} {g : Nat} {t : TypeId} {cs : List Value} (h : Blk w g t cs) (e : w'.heap[g]? = w.heap[g]?) : Blk w' g t cs := by unfold Blk; rw [e]; exact h
/-- Behind its else. -/
theorem NI.flagged {w w' : World} {B N : Nat} {outV openV : Value} {x : FrM} {r : List FrM} {out : List Part} (h : NI w B N outV openV (x :: r) out)
    (hs : w.heap.size ≤ w'.heap.size) (hE : ∀ k, k < w.heap.size → k ≠ x.b → w'.heap[k]? = w.heap[k]?) (x' : FrM) (hx' : x' = ⟨⟨x.fr.p, x.fr.kids, x.fr.other, true⟩, x.b, x.pv, x.kv, x.ov⟩) (hblk : Blk w' x.b 98 (frCells x')) : NI w' B N outV openV (x' :: r) out := by
  have hnd := h.nodup
  have hlt := h.lt
  have hxb : x'.b = x.b := by rw [hx']
  have hfb : fbN N outV openV (x' :: r) = fbN N outV openV (x :: r) := by rw [hx']; rfl
  have hmx : x.b ∈ fbN N outV openV (x :: r) := by simp [fbN, FrM.fb]
  have hP : ∀ b, PN w (fbN N outV openV (x :: r)) b → w'.heap[b]? = w.heap[b]? := fun b hb => hE b hb.1 (fun e => hb.2 (e ▸ hmx))
  have hPP : ∀ b, PN w (fbN N outV openV (x :: r)) b → PN w' (fbN N outV openV (x' :: r)) b := fun b hb => by rw [hfb]; exact ⟨Nat.lt_of_lt_of_le hb.1 hs, hb.2⟩
  have hkeep : ∀ k ∈ fbN N outV openV (x :: r), k ≠ x.b → w'.heap[k]? = w.heap[k]? := fun k hk hn => hE k (hlt k hk).2 hn
  have hnd2 := hnd
  simp only [fbN, FrM.fb, List.flatMap_cons, List.nodup_cons, List.nodup_append, List.mem_append, List.mem_cons, List.cons_append] at hnd2
  obtain ⟨f1, f2, f3, f4⟩ := h.fr x (List.mem_cons_self ..)
  refine ⟨by rw [hfb]; exact hnd, fun k hk => by rw [hfb] at hk; exact ⟨(hlt k hk).1, Nat.lt_of_lt_of_le (hlt k hk).2 hs⟩, ?_, ?_, ?_, ?_⟩
  · exact blk_at h.blk (hkeep N (by simp [fbN]) (by grind))
  · refine h.out.frame (fun k ek => hkeep k ?_ ?_) hP hPP
    · simp only [fbN, List.mem_cons, List.mem_append, mem_ownL]; exact .inr (.inl ek)
    · have hk : k ∈ ownL outV := mem_ownL.2 ek
      grind
  · have e2 : openCells (x' :: r) = openCells (x :: r) := by rw [openCells_cons, openCells_cons, hxb]
    rw [e2]
    refine ownsRow_heap h.op (fun k ek => hkeep k ?_ ?_)
    · simp only [fbN, List.mem_cons, List.mem_append, mem_ownL]; exact .inr (.inr (.inl ek))
    · have hk : k ∈ ownL openV := mem_ownL.2 ek
      grind
  · intro y hy
    rcases List.mem_cons.1 hy with rfl | hy
    · have g3 := f3.frame (w' := w') (P' := PN w' (fbN N outV openV (y :: r))) (fun k ek => hkeep k (by have hk := mem_ownL.2 ek; simp only [fbN, FrM.fb, List.flatMap_cons, List.mem_cons, List.mem_append]; grind) (by have hk := mem_ownL.2 ek; grind)) hP hPP
      have g4 := f4.frame (w' := w') (P' := PN w' (fbN N outV openV (y :: r))) (fun k ek => hkeep k (by have hk := mem_ownL.2 ek; simp only [fbN, FrM.fb, List.flatMap_cons, List.mem_cons, List.mem_append]; grind) (by have hk := mem_ownL.2 ek; grind)) hP hPP
      have g2 := f2.frame (w' := w') (P' := PN w' (fbN N outV openV (y :: r))) hP hPP
      rw [hxb.symm] at hblk
      subst hx'
      exact ⟨hblk, g2, g3, g4⟩
    · obtain ⟨g1, g2, g3, g4⟩ := h.fr y (List.mem_cons_of_mem _ hy)
      have hm : ∀ k, k ∈ y.fb → k ∈ r.flatMap FrM.fb := fun k hk => List.mem_flatMap.2 ⟨y, hy, hk⟩
      have hk2 : ∀ k, k ∈ y.fb → w'.heap[k]? = w.heap[k]? := fun k hk => hkeep k (by simp only [fbN, List.flatMap_cons, List.mem_cons, List.mem_append]; exact .inr (.inr (.inr (.inr (hm k hk))))) (by have := hm k hk; grind)
      refine ⟨blk_at g1 (hk2 y.b (by simp [FrM.fb])), g2.frame hP hPP, g3.frame (fun k ek => hk2 k ?_) hP hPP, g4.frame (fun k ek => hk2 k ?_) hP hPP⟩
      · simp only [FrM.fb, List.mem_cons, List.mem_append, mem_ownL]; exact .inr (.inl ek)
      · simp only [FrM.fb, List.mem_cons, List.mem_append, mem_ownL]; exact .inr (.inr ek)
theorem nodup_push {N b g H : Nat} {A O R : List Nat} (h : (N :: (A ++ (O ++ R))).Nodup) (hl : ∀ k ∈ (N :: (A ++ (O ++ R))), k < H) (hg : O = [g] ∨ H ≤ g) (hb : H ≤ b) (hbg : b ≠ g) :
    (N :: (A ++ ([g] ++ (b :: ([] ++ []) ++ R)))).Nodup := by
  simp only [List.nodup_cons, List.nodup_append, List.mem_append, List.mem_cons] at *
  grind
theorem mem_push {N b g k : Nat} {A O R : List Nat} (h : k ∈ (N :: (A ++ ([g] ++ (b :: ([] ++ []) ++ R))))) : k = g ∨ k = b ∨ k ∈ (N :: (A ++ (O ++ R))) := by
  simp only [List.mem_append, List.mem_cons] at *
  grind
/-- A block opened. -/
theorem NI.pushed {w w' : World} {B N : Nat} {outV openV : Value} {fs : List FrM} {out : List Part} (h : NI w B N outV openV fs out) (p : Pc) (pv : Value) (r1 : PathRd w (PN w (fbN N outV openV fs)) pv p.path)
    (g cap b : Nat) (hs : w.heap.size ≤ w'.heap.size) (hE : ∀ k, k < w.heap.size → k ≠ N → openV.ownBlock ≠ some k → w'.heap[k]? = w.heap[k]?)
    (hB : B ≤ w.heap.size) (hg : GrewTo w openV g) (hgl : g < w'.heap.size) (hb : w.heap.size ≤ b) (hbl : b < w'.heap.size) (hbg : b ≠ g)
    (x : FrM) (hx : x = ⟨⟨p, [], [], false⟩, b, pv, .slice none 0 0, .slice none 0 0⟩)
    (hblk : Blk w' N 78 [outV, .slice (some ⟨g, 0, none⟩) (fs.length + 1) cap]) (hbb : Blk w' b 98 (frCells x))
    (ho : w'.ownsRow B 20 1 (.slice (some ⟨g, 0, none⟩) (fs.length + 1) cap) (fs.length + 1) (openCells fs ++ [.iface 95 (.pointer (some ⟨b, 0, none⟩))])) :
    NI w' B N outV (.slice (some ⟨g, 0, none⟩) (fs.length + 1) cap) (x :: fs) out := by
  have hnd := h.nodup
  have hlt := h.lt
  have hxb : x.b = b := by rw [hx]
  have hfb : x.fb = b :: ([] ++ []) := by rw [hx]; rfl
  unfold GrewTo at hg
  have hgf : ownL openV = [g] ∨ w.heap.size ≤ g := hg.imp (fun e => by unfold ownL; rw [e]; rfl) id
  have hL : fbN N outV (.slice (some ⟨g, 0, none⟩) (fs.length + 1) cap) (x :: fs) = N :: (ownL outV ++ ([g] ++ (b :: ([] ++ []) ++ fs.flatMap FrM.fb))) := by
    unfold fbN; rw [List.flatMap_cons, hfb]; rfl
  have hP : ∀ k, PN w (fbN N outV openV fs) k → w'.heap[k]? = w.heap[k]? := by
    intro k hk
    obtain ⟨h1, h2⟩ := hk
    simp only [fbN, List.mem_cons, List.mem_append, mem_ownL] at h2
    exact hE k h1 (fun e => h2 (.inl e)) (fun e => h2 (.inr (.inr (.inl e))))
  have hPP : ∀ k, PN w (fbN N outV openV fs) k → PN w' (fbN N outV (.slice (some ⟨g, 0, none⟩) (fs.length + 1) cap) (x :: fs)) k := by
    intro k hk
    obtain ⟨h1, h2⟩ := hk
    refine ⟨Nat.lt_of_lt_of_le h1 hs, fun hm => ?_⟩
    rw [hL] at hm
    unfold fbN at h2
    rcases mem_push (O := ownL openV) hm with rfl | rfl | hm
    · rcases hgf with hgf | hgf
      · refine h2 ?_; rw [hgf]; simp
      · omega
    · omega
    · exact h2 hm
  have hkeep : ∀ k ∈ fbN N outV openV fs, k ≠ N → k ∉ ownL openV → w'.heap[k]? = w.heap[k]? := fun k hk h1 h2 => hE k (hlt k hk).2 h1 (fun e => h2 (mem_ownL.2 e))
  have hnd2 := hnd
  simp only [fbN, List.nodup_cons, List.nodup_append, List.mem_append] at hnd2
  refine ⟨by rw [hL]; exact nodup_push hnd (fun k hk => (hlt k hk).2) hgf hb hbg, ?_, hblk, ?_, ?_, ?_⟩
  · intro k hk
    rw [hL] at hk
    rcases mem_push (O := ownL openV) hk with rfl | rfl | hk
    · refine ⟨?_, hgl⟩
      rcases hg with hg | hg
      · exact (hlt k (by simp only [fbN, List.mem_cons, List.mem_append, mem_ownL]; exact .inr (.inr (.inl hg)))).1
      · omega
    · exact ⟨by omega, hbl⟩
    · exact ⟨(hlt k hk).1, Nat.lt_of_lt_of_le (hlt k hk).2 hs⟩
  · refine h.out.frame (fun k ek => hkeep k ?_ ?_ ?_) hP hPP
    · simp only [fbN, List.mem_cons, List.mem_append, mem_ownL]; exact .inr (.inl ek)
    · have hk : k ∈ ownL outV := mem_ownL.2 ek
      grind
    · have hk : k ∈ ownL outV := mem_ownL.2 ek
      grind
  · rw [openCells_cons, hxb]
    exact ho
  · intro y hy
    rcases List.mem_cons.1 hy with rfl | hy
    · rw [hxb.symm] at hbb
      have hpath := r1.frame (w' := w') hP hPP
      subst hx
      exact ⟨hbb, hpath, VOwn.nil, VOwn.nil⟩
    · obtain ⟨g1, g2, g3, g4⟩ := h.fr y hy
      have hm : ∀ k, k ∈ y.fb → k ∈ fs.flatMap FrM.fb := fun k hk => List.mem_flatMap.2 ⟨y, hy, hk⟩
      have hk2 : ∀ k, k ∈ y.fb → w'.heap[k]? = w.heap[k]? := fun k hk => hkeep k (by simp only [fbN, List.mem_cons, List.mem_append]; exact .inr (.inr (.inr (hm k hk)))) (by have := hm k hk; grind) (by have := hm k hk; grind)
      refine ⟨blk_at g1 (hk2 y.b (by simp [FrM.fb])), g2.frame hP hPP, g3.frame (fun k ek => hk2 k ?_) hP hPP, g4.frame (fun k ek => hk2 k ?_) hP hPP⟩
      · simp only [FrM.fb, List.mem_cons, List.mem_append, mem_ownL]; exact .inr (.inl ek)
      · simp only [FrM.fb, List.mem_cons, List.mem_append, mem_ownL]; exact .inr (.inr ek)
/-- A block closed. -/
theorem NI.popped {w w' : World} {B N g cap : Nat} {outV : Value} {x : FrM} {r : List FrM} {out : List Part} (h : NI w B N outV (.slice (some ⟨g, 0, none⟩) (r.length + 1) cap) (x :: r) out)
    (hs : w.heap.size ≤ w'.heap.size) (hE : ∀ k, k < w.heap.size → k ≠ N → w'.heap[k]? = w.heap[k]?) (hblk : Blk w' N 78 [outV, .slice (some ⟨g, 0, none⟩) r.length cap]) :
    NI w' B N outV (.slice (some ⟨g, 0, none⟩) r.length cap) r out ∧ PathRd w' (PN w' (fbN N outV (.slice (some ⟨g, 0, none⟩) r.length cap) r)) x.pv x.fr.p.path ∧
      VRd w' (PN w' (fbN N outV (.slice (some ⟨g, 0, none⟩) r.length cap) r)) x.kv x.fr.kids ∧ VRd w' (PN w' (fbN N outV (.slice (some ⟨g, 0, none⟩) r.length cap) r)) x.ov x.fr.other := by
  have hnd := h.nodup
  have hlt := h.lt
  have hop : ∀ n, ownL (.slice (some ⟨g, 0, none⟩) n cap) = [g] := fun n => rfl
  have hsub : ∀ k, k ∈ fbN N outV (.slice (some ⟨g, 0, none⟩) r.length cap) r → k ∈ fbN N outV (.slice (some ⟨g, 0, none⟩) (r.length + 1) cap) (x :: r) := by
    intro k hk
    simp only [fbN, hop, List.flatMap_cons, List.mem_cons, List.mem_append] at hk ⊢
    grind
  have hmN : N ∈ fbN N outV (.slice (some ⟨g, 0, none⟩) (r.length + 1) cap) (x :: r) := by simp [fbN]
  have hP : ∀ k, PN w (fbN N outV (.slice (some ⟨g, 0, none⟩) (r.length + 1) cap) (x :: r)) k → w'.heap[k]? = w.heap[k]? := fun k hk => hE k hk.1 (fun e => hk.2 (e ▸ hmN))
  have hPP : ∀ k, PN w (fbN N outV (.slice (some ⟨g, 0, none⟩) (r.length + 1) cap) (x :: r)) k → PN w' (fbN N outV (.slice (some ⟨g, 0, none⟩) r.length cap) r) k := fun k hk => ⟨Nat.lt_of_lt_of_le hk.1 hs, fun hm => hk.2 (hsub k hm)⟩
  have hkeep : ∀ k ∈ fbN N outV (.slice (some ⟨g, 0, none⟩) (r.length + 1) cap) (x :: r), k ≠ N → w'.heap[k]? = w.heap[k]? := fun k hk hn => hE k (hlt k hk).2 hn
  have hnd2 := hnd
  simp only [fbN, hop, FrM.fb, List.flatMap_cons, List.nodup_cons, List.nodup_append, List.mem_append, List.mem_cons, List.cons_append] at hnd2
  obtain ⟨f1, f2, f3, f4⟩ := h.fr x (List.mem_cons_self ..)
  have hx1 : ∀ k, k ∈ x.fb → k ∈ fbN N outV (.slice (some ⟨g, 0, none⟩) (r.length + 1) cap) (x :: r) := fun k hk => by
    simp only [fbN, List.flatMap_cons, List.mem_cons, List.mem_append]; exact .inr (.inr (.inr (.inl hk)))
  have hxn : ∀ k, k ∈ x.fb → k ≠ N := fun k hk => by simp only [FrM.fb, List.mem_cons, List.mem_append] at hk; grind
  have hx2 : ∀ k, k ∈ x.fb → k ∉ fbN N outV (.slice (some ⟨g, 0, none⟩) r.length cap) r := fun k hk => by
    simp only [FrM.fb, List.mem_cons, List.mem_append] at hk
    simp only [fbN, hop, List.mem_cons, List.mem_append]
    grind
  refine ⟨⟨?_, fun k hk => ⟨(hlt k (hsub k hk)).1, Nat.lt_of_lt_of_le (hlt k (hsub k hk)).2 hs⟩, hblk, ?_, ?_, ?_⟩, f2.frame hP hPP, ?_, ?_⟩
  · simp only [fbN, hop, List.nodup_cons, List.nodup_append, List.mem_append, List.mem_cons]
    grind
  · refine h.out.frame (fun k ek => hkeep k ?_ ?_) hP hPP
    · simp only [fbN, List.mem_cons, List.mem_append, mem_ownL]; exact .inr (.inl ek)
    · have hk : k ∈ ownL outV := mem_ownL.2 ek
      grind
  · have ho := h.op
    rw [openCells_cons, List.length_cons] at ho
    have ho' := own_less ho (by rw [openCells_len]; omega)
    exact ownsRow_heap ho' (fun k ek => by cases ek; exact hkeep g (by simp [fbN, hop]) (by grind))
  · intro y hy
    obtain ⟨g1, g2, g3, g4⟩ := h.fr y (List.mem_cons_of_mem _ hy)
    have hm : ∀ k, k ∈ y.fb → k ∈ r.flatMap FrM.fb := fun k hk => List.mem_flatMap.2 ⟨y, hy, hk⟩
    have hk2 : ∀ k, k ∈ y.fb → w'.heap[k]? = w.heap[k]? := fun k hk => hkeep k (by simp only [fbN, List.flatMap_cons, List.mem_cons, List.mem_append]; exact .inr (.inr (.inr (.inr (hm k hk))))) (by have := hm k hk; grind)
    refine ⟨blk_at g1 (hk2 y.b (by simp [FrM.fb])), g2.frame hP hPP, g3.frame (fun k ek => hk2 k ?_) hP hPP, g4.frame (fun k ek => hk2 k ?_) hP hPP⟩
    · simp only [FrM.fb, List.mem_cons, List.mem_append, mem_ownL]; exact .inr (.inl ek)
    · simp only [FrM.fb, List.mem_cons, List.mem_append, mem_ownL]; exact .inr (.inr ek)
  · have hv := f3.frame (w' := w') (P' := PN w' (fbN N outV (.slice (some ⟨g, 0, none⟩) r.length cap) r)) (fun k ek => hkeep k (hx1 k (by simp only [FrM.fb, List.mem_cons, List.mem_append, mem_ownL]; exact .inr (.inl ek))) (hxn k (by simp only [FrM.fb, List.mem_cons, List.mem_append, mem_ownL]; exact .inr (.inl ek)))) hP hPP
    exact hv.read (fun k ek => ⟨(hv.own k ek).2, hx2 k (by simp only [FrM.fb, List.mem_cons, List.mem_append, mem_ownL]; exact .inr (.inl ek))⟩) (fun _ h => h)
  · have hv := f4.frame (w' := w') (P' := PN w' (fbN N outV (.slice (some ⟨g, 0, none⟩) r.length cap) r)) (fun k ek => hkeep k (hx1 k (by simp only [FrM.fb, List.mem_cons, List.mem_append, mem_ownL]; exact .inr (.inr ek))) (hxn k (by simp only [FrM.fb, List.mem_cons, List.mem_append, mem_ownL]; exact .inr (.inr ek)))) hP hPP
    exact hv.read (fun k ek => ⟨(hv.own k ek).2, hx2 k (by simp only [FrM.fb, List.mem_cons, List.mem_append, mem_ownL]; exact .inr (.inr ek))⟩) (fun _ h => h)
end Go.Proofs.YthilkpjdfjjikaaDoor
end
section
/-
  The nester's last open block, walked.
-/
namespace Go.Proofs.YthilkpjdfjjikaaDoor
open Go.RowKit
attribute [local go_sem ↓] Go.wp_at_zero Go.wp_at_succ

def lastP (fs : List FrM) : Value := .pointer (match fs with | [] => none | x :: _ => some ⟨x.b, 0, none⟩)
theorem NI.openForm {w : World} {B N : Nat} {outV openV : Value} {x : FrM} {r : List FrM} {out : List Part} (h : NI w B N outV openV (x :: r) out) :
    ∃ g cap, openV = .slice (some ⟨g, 0, none⟩) (r.length + 1) cap ∧ B ≤ g ∧ g < w.heap.size ∧ r.length + 1 ≤ cap ∧ cap ≤ maxLen ∧ w.cell? ⟨g, r.length, none⟩ = some (.iface 95 (.pointer (some ⟨x.b, 0, none⟩))) := by
  have ho := h.op
  rcases ho.2 with ⟨_, h0⟩ | ⟨g, cap, cur, rfl, h1, h2, h3, h4, h5, h6⟩
  · simp at h0
  · refine ⟨g, cap, rfl, h1, (Array.getElem?_eq_some_iff.1 h2).1, by simpa using h3, h4, ?_⟩
    rw [ho.cellAt r.length (by simp), openCells_cons, List.getElem?_append_right (by rw [openCells_len]; omega), openCells_len, Nat.sub_self]
    rfl
theorem assert_blk (v : Value) (W : World) : (Instr.typeAssert (.iface 95 v) 20 95 true).run Tryd.prog W = .ok (.tuple #[v, .bool true]) W := by kernel_rfl
set_option maxHeartbeats 4000000 in
set_option maxRecDepth 100000 in
theorem last_any (w : World) (B N : Nat) (outV openV : Value) (fs : List FrM) (out : List Part) (h : NI w B N outV openV fs out) :
    Calls Tryd.prog 60 #[.pointer (some ⟨N, 0, none⟩)] w fun e w' => e = .returned (lastP fs) ∧ ∃ q, w' = w.drewN q := by
  cases fs with
  | nil =>
    obtain ⟨A, c, rfl, hc, _⟩ := own_form h.op
    have n1 := blk_cell h.blk 1
    simp only [List.getElem?_cons_zero, List.getElem?_cons_succ] at n1
    clear h
    go_enter Tryd.func60, Tryd.ntmps60
    go_wp2_with fail
    go_ret
    exact ⟨rfl, 0, rfl⟩
  | cons x r =>
    obtain ⟨g, cap, rfl, hB, hg, hc, hm, hcell⟩ := h.openForm
    have n1 := blk_cell h.blk 1
    simp only [List.getElem?_cons_zero, List.getElem?_cons_succ] at n1
    unfold maxLen at hm
    obtain ⟨n, hn⟩ : ∃ n, n = r.length := ⟨_, rfl⟩
    rw [← hn] at n1 hc hcell
    have hn0 : ((n : Int) + 1 == 0) = false := by rw [beq_eq_false_iff_ne]; omega
    rw [show lastP (x :: r) = .pointer (some ⟨x.b, 0, none⟩) from rfl]
    clear h hn
    go_enter Tryd.func60, Tryd.ntmps60
    go_wp2_with fail
    have g1 : IntKind.i64.wrap ((n : Int) + 1 - 1) = (n : Int) := by rw [show (n : Int) + 1 - 1 = n from by omega]; exact IntWalk.i64_in _ (by omega)
    have g2 : IntKind.i64.wrap (n : Int) = (n : Int) := IntWalk.i64_in _ (by omega)
    have g4 : (0 : Int) ≤ (n : Int) := by omega
    have g5 : (n : Int) < (n : Int) + 1 := by omega
    have g6 : ((n : Int)).toNat = n := by omega
    have g7 := assert_blk (.pointer (some ⟨x.b, 0, none⟩))
    go_quiet (fail)
    go_wp2_with fail
    go_ret
    exact ⟨rfl, _, rfl⟩
end Go.Proofs.YthilkpjdfjjikaaDoor
end
