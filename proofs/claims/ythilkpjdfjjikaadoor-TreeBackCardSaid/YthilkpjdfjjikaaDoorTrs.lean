/-
  Trees, plain: how much the nester's parts hold; which lists of parts it makes.
-/
import Derived.Test.YthilkpjdfjjikaaDoorTrp
set_option linter.unusedVariables false
set_option linter.unusedSimpArgs false
namespace Go.Proofs.YthilkpjdfjjikaaDoor

def Fr.sz (f : Fr) : Nat := 1 + f.p.path.length + sizes f.kids + sizes f.other
def stSz : List Fr → Nat | [] => 0 | f :: r => f.sz + stSz r
def NSt.sz (s : NSt) : Nat := sizes s.out + stSz s.st
def psz : List Pc → Nat | [] => 0 | p :: l => 1 + p.path.length + psz l
theorem sizes_one (q : Part) : sizes [q] = q.size := by simp [sizes]
theorem put_sz (s : NSt) (q : Part) : (putS s q).sz = s.sz + q.size := by
  obtain ⟨out, st⟩ := s
  cases st with
  | nil =>
    show sizes (out ++ [q]) + stSz [] = _
    rw [sizes_append, sizes_one]
    simp only [NSt.sz, stSz]; omega
  | cons f r =>
    obtain ⟨p, k, o, b⟩ := f
    cases b
    · show sizes out + (1 + p.path.length + sizes (k ++ [q]) + sizes o + stSz r) = sizes out + (1 + p.path.length + sizes k + sizes o + stSz r) + q.size
      rw [sizes_append, sizes_one]; omega
    · show sizes out + (1 + p.path.length + sizes k + sizes (o ++ [q]) + stSz r) = sizes out + (1 + p.path.length + sizes k + sizes o + stSz r) + q.size
      rw [sizes_append, sizes_one]; omega
theorem size_leaf (p : Pc) : (Part.mk p [] []).size = 1 + p.path.length := by simp [Part.size, sizes]
theorem take_sz (s s' : NSt) (p : Pc) (h : takeS s p = some s') : s'.sz ≤ s.sz + (1 + p.path.length) := by
  obtain ⟨out, st⟩ := s
  unfold takeS at h
  split at h
  · split at h
    · cases h
    · injection h with h; subst h
      show sizes out + (1 + p.path.length + sizes [] + sizes [] + stSz st) ≤ sizes out + stSz st + _
      simp only [sizes]; omega
  · split at h
    · cases st with
      | nil => cases h
      | cons f r =>
        dsimp only at h
        split at h
        · cases h
        · injection h with h; subst h
          exact Nat.le_add_right _ _
    · split at h
      · cases st with
        | nil => cases h
        | cons f r =>
          dsimp only at h
          injection h with h; subst h
          rw [put_sz]
          show sizes out + stSz r + (1 + f.p.path.length + sizes f.kids + sizes f.other) ≤ sizes out + (1 + f.p.path.length + sizes f.kids + sizes f.other + stSz r) + _
          omega
      · injection h with h; subst h
        rw [put_sz, size_leaf]; exact Nat.le_refl _
theorem nest_sz (size : Int) : ∀ (l : List Pc) (s : NSt), sizes (nestFrom size l s).out ≤ s.sz + psz l
  | [], s => by
    unfold nestFrom
    split
    · show sizes s.out ≤ sizes s.out + stSz s.st + 0; omega
    · exact Nat.zero_le _
  | p :: l, s => by
    unfold nestFrom
    cases ht : takeS s p with
    | none => exact Nat.zero_le _
    | some s' =>
      have := nest_sz size l s'
      have := take_sz s s' p ht
      simp only [psz]; omega
theorem psz_le (B : Nat) : ∀ l : List Pc, (∀ p ∈ l, p.path.length ≤ B) → psz l ≤ l.length * (1 + B)
  | [], _ => by simp [psz]
  | p :: l, h => by
    have h1 := psz_le B l (fun q hq => h q (List.mem_cons_of_mem _ hq))
    have h2 := h p List.mem_cons_self
    simp only [psz, List.length_cons]
    rw [Nat.add_mul]; omega
theorem nestL_sz (l : List Pc) (size : Int) (B : Nat) (h : ∀ p ∈ l, p.path.length ≤ B) : sizes (nestL l size).out ≤ l.length * (1 + B) := by
  have h1 := nest_sz size l ⟨[], []⟩
  have h2 := psz_le B l h
  have h3 : (⟨[], []⟩ : NSt).sz = 0 := rfl
  unfold nestL; omega

/-! ### Which parts it makes -/
mutual
/-- A part as the nester makes it. -/
def Part.wf : Part → Prop
  | .mk p ks os => (blockK p.kind = true → wfs ks ∧ wfs os ∧ (p.kind = 3 → os = [])) ∧ (blockK p.kind = false → ks = [] ∧ os = [] ∧ p.kind ≠ 5 ∧ p.kind ≠ 6)
def wfs : List Part → Prop | [] => True | q :: r => q.wf ∧ wfs r
end
theorem wfs_append : ∀ a b : List Part, wfs (a ++ b) ↔ wfs a ∧ wfs b
  | [], b => by simp [wfs]
  | q :: r, b => by rw [List.cons_append]; simp only [wfs]; rw [wfs_append r b, and_assoc]
theorem wfs_one (q : Part) : wfs [q] ↔ q.wf := by simp [wfs]
/-- A frame's. -/
def Fr.wf (f : Fr) : Prop := blockK f.p.kind = true ∧ wfs f.kids ∧ wfs f.other ∧ (f.flag = true → f.p.kind = 4) ∧ (f.flag = false → f.other = [])
def NSt.wf (s : NSt) : Prop := wfs s.out ∧ ∀ f ∈ s.st, f.wf
theorem put_wf (s : NSt) (q : Part) (h : s.wf) (hq : q.wf) : (putS s q).wf := by
  obtain ⟨out, st⟩ := s
  obtain ⟨h1, h2⟩ := h
  cases st with
  | nil => exact ⟨(wfs_append _ _).2 ⟨h1, (wfs_one _).2 hq⟩, fun f hf => by cases hf⟩
  | cons f r =>
    obtain ⟨p, k, o, b⟩ := f
    obtain ⟨f1, f2, f3, f4, f5⟩ := h2 _ List.mem_cons_self
    have hr : ∀ f ∈ r, Fr.wf f := fun f hf => h2 f (List.mem_cons_of_mem _ hf)
    cases b
    · refine ⟨h1, fun f hf => ?_⟩
      rcases List.mem_cons.1 (show f ∈ (⟨p, k ++ [q], o, false⟩ : Fr) :: r from hf) with rfl | hf
      · exact ⟨f1, (wfs_append _ _).2 ⟨f2, (wfs_one _).2 hq⟩, f3, f4, f5⟩
      · exact hr f hf
    · refine ⟨h1, fun f hf => ?_⟩
      rcases List.mem_cons.1 (show f ∈ (⟨p, k, o ++ [q], true⟩ : Fr) :: r from hf) with rfl | hf
      · exact ⟨f1, f2, (wfs_append _ _).2 ⟨f3, (wfs_one _).2 hq⟩, f4, fun h => by cases h⟩
      · exact hr f hf
theorem take_wf (s s' : NSt) (p : Pc) (h : takeS s p = some s') (hw : s.wf) : s'.wf := by
  obtain ⟨out, st⟩ := s
  obtain ⟨h1, h2⟩ := hw
  unfold takeS at h
  split at h
  · rename_i hK
    split at h
    · cases h
    · injection h with h; subst h
      refine ⟨h1, fun f hf => ?_⟩
      rcases List.mem_cons.1 hf with rfl | hf
      · exact ⟨hK, by show wfs []; unfold wfs; trivial, by show wfs []; unfold wfs; trivial, fun h => (by cases h), fun _ => rfl⟩
      · exact h2 f hf
  · rename_i hK
    split at h
    · cases st with
      | nil => cases h
      | cons f r =>
        dsimp only at h
        split at h
        · cases h
        · rename_i hn
          injection h with h; subst h
          obtain ⟨f1, f2, f3, f4, f5⟩ := h2 _ List.mem_cons_self
          refine ⟨h1, fun g hg => ?_⟩
          rcases List.mem_cons.1 hg with rfl | hg
          · exact ⟨f1, f2, f3, fun _ => Classical.byContradiction fun h4 => hn (.inl h4), fun h => by cases h⟩
          · exact h2 g (List.mem_cons_of_mem _ hg)
    · split at h
      · cases st with
        | nil => cases h
        | cons f r =>
          dsimp only at h
          injection h with h; subst h
          obtain ⟨f1, f2, f3, f4, f5⟩ := h2 _ List.mem_cons_self
          refine put_wf _ _ ⟨h1, fun g hg => h2 g (List.mem_cons_of_mem _ hg)⟩ ?_
          unfold Part.wf
          refine ⟨fun _ => ⟨f2, f3, fun h3 => ?_⟩, fun h => by rw [f1] at h; cases h⟩
          cases hf : f.flag with
          | true => have := f4 hf; omega
          | false => exact f5 hf
      · rename_i h5 h6
        injection h with h; subst h
        refine put_wf _ _ ⟨h1, h2⟩ ?_
        unfold Part.wf
        exact ⟨fun h => absurd h hK, fun _ => ⟨rfl, rfl, h5, h6⟩⟩
theorem nestFrom_wf (size : Int) : ∀ (l : List Pc) (s : NSt), s.wf → wfs (nestFrom size l s).out
  | [], s, h => by
    unfold nestFrom
    split
    · exact h.1
    · trivial
  | p :: l, s, h => by
    unfold nestFrom
    cases ht : takeS s p with
    | none => trivial
    | some s' => exact nestFrom_wf size l s' (take_wf s s' p ht h)
theorem nestL_wf (l : List Pc) (size : Int) : wfs (nestL l size).out := nestFrom_wf size l ⟨[], []⟩ ⟨trivial, fun f hf => by cases hf⟩

/-! ### How deep they are -/
/-- What lies at height `i` of the stack is at most so deep. -/
def stDep : List Fr → Prop
  | [] => True
  | f :: r => r.length + 1 + deps f.kids ≤ 12 ∧ r.length + 1 + deps f.other ≤ 12 ∧ stDep r
def NSt.dpt (s : NSt) : Prop := deps s.out ≤ 12 ∧ s.st.length ≤ 12 ∧ stDep s.st
theorem put_dpt (s : NSt) (q : Part) (h : s.dpt) (hq : s.st.length + q.dep ≤ 12) : (putS s q).dpt := by
  obtain ⟨out, st⟩ := s
  obtain ⟨h1, h2, h3⟩ := h
  cases st with
  | nil => exact ⟨by rw [show (putS ⟨out, []⟩ q).out = out ++ [q] from rfl, deps_append, deps_one]; simp only [List.length_nil] at hq; have h1 : deps out ≤ 12 := h1; omega, Nat.zero_le _, trivial⟩
  | cons f r =>
    obtain ⟨p, k, o, b⟩ := f
    obtain ⟨g1, g2, g3⟩ := h3
    dsimp only at g1 g2 hq h2
    rw [List.length_cons] at hq h2
    cases b
    · refine ⟨h1, h2, ?_⟩
      show r.length + 1 + deps (k ++ [q]) ≤ 12 ∧ r.length + 1 + deps o ≤ 12 ∧ stDep r
      rw [deps_append, deps_one]
      exact ⟨by omega, g2, g3⟩
    · refine ⟨h1, h2, ?_⟩
      show r.length + 1 + deps k ≤ 12 ∧ r.length + 1 + deps (o ++ [q]) ≤ 12 ∧ stDep r
      rw [deps_append, deps_one]
      exact ⟨g1, by omega, g3⟩
theorem take_dpt (s s' : NSt) (p : Pc) (h : takeS s p = some s') (hw : s.dpt) : s'.dpt := by
  obtain ⟨out, st⟩ := s
  obtain ⟨h1, h2, h3⟩ := hw
  unfold takeS at h
  split at h
  · split at h
    · cases h
    · rename_i hK hn
      injection h with h; subst h
      dsimp only at hn h2
      refine ⟨h1, by rw [List.length_cons]; show st.length + 1 ≤ 12; omega, ?_⟩
      show st.length + 1 + deps [] ≤ 12 ∧ st.length + 1 + deps [] ≤ 12 ∧ stDep st
      simp only [deps]
      exact ⟨by omega, by omega, h3⟩
  · split at h
    · cases st with
      | nil => cases h
      | cons f r =>
        dsimp only at h
        split at h
        · cases h
        · injection h with h; subst h
          exact ⟨h1, h2, h3⟩
    · split at h
      · cases st with
        | nil => cases h
        | cons f r =>
          dsimp only at h
          injection h with h; subst h
          obtain ⟨g1, g2, g3⟩ := h3
          rw [List.length_cons] at h2
          refine put_dpt _ _ ⟨h1, by show r.length ≤ 12; omega, g3⟩ ?_
          show r.length + Part.dep (.mk f.p f.kids f.other) ≤ 12
          simp only [Part.dep]
          split <;> omega
      · rename_i hK h5 h6
        injection h with h; subst h
        refine put_dpt _ _ ⟨h1, h2, h3⟩ ?_
        show st.length + Part.dep (.mk p [] []) ≤ 12
        simp only [Part.dep, deps]
        rw [if_neg (show ¬ (p.kind == 3 || p.kind == 4) = true from hK)]; exact h2
theorem nestFrom_dpt (size : Int) : ∀ (l : List Pc) (s : NSt), s.dpt → deps (nestFrom size l s).out ≤ 12
  | [], s, h => by
    unfold nestFrom
    split
    · exact h.1
    · exact Nat.zero_le _
  | p :: l, s, h => by
    unfold nestFrom
    cases ht : takeS s p with
    | none => exact Nat.zero_le _
    | some s' => exact nestFrom_dpt size l s' (take_dpt s s' p ht h)
theorem nestL_dpt (l : List Pc) (size : Int) : deps (nestL l size).out ≤ 12 := nestFrom_dpt size l ⟨[], []⟩ ⟨Nat.zero_le _, Nat.zero_le _, trivial⟩

/-! ### Flat, and back -/
mutual
/-- A part's pieces. -/
def Part.flat : Part → List Pc
  | .mk p ks os => p :: (if blockK p.kind = true then flats ks ++ ((if os = [] then [] else (⟨5, 0, [], [], [], 0⟩ : Pc) :: flats os) ++ [(⟨6, 0, [], [], [], 0⟩ : Pc)]) else [])
def flats : List Part → List Pc | [] => [] | q :: r => q.flat ++ flats r
end
mutual
theorem flat_back (size : Int) : ∀ (q : Part) (s : NSt) (l : List Pc), q.wf → s.st.length + q.dep ≤ 12 → nestFrom size (q.flat ++ l) s = nestFrom size l (putS s q)
  | .mk p ks os, s, l, hw, hd => by
    unfold Part.wf at hw
    unfold Part.flat
    by_cases hK : blockK p.kind = true
    · obtain ⟨w1, w2, w3⟩ := hw.1 hK
      have hK' : (p.kind == 3 || p.kind == 4) = true := hK
      simp only [Part.dep, if_pos hK'] at hd
      rw [if_pos hK, List.cons_append, nestFrom, takeS, if_pos hK, if_neg (by omega)]
      dsimp only
      rw [List.append_assoc, flats_back size ks ⟨s.out, ⟨p, [], [], false⟩ :: s.st⟩ _ w1 (by rw [List.length_cons]; omega)]
      have e1 : ∀ ks', (⟨s.out, ⟨p, [], [], false⟩ :: s.st⟩ : NSt).set ks' = ⟨s.out, ⟨p, ks', [], false⟩ :: s.st⟩ := fun _ => rfl
      rw [show (⟨s.out, ⟨p, [], [], false⟩ :: s.st⟩ : NSt).cur = [] from rfl, List.nil_append, e1]
      by_cases ho : os = []
      · subst ho
        rw [if_pos rfl, List.nil_append, List.singleton_append, nestFrom, takeS]
        rw [if_neg (by decide), if_neg (by decide), if_pos rfl]
      · rw [if_neg ho, List.cons_append, List.cons_append, nestFrom, takeS]
        have h4 : p.kind = 4 := by
          obtain ⟨_, _, h34⟩ := blockK_not hK
          rcases h34 with h | h
          · exact absurd (w3 h) ho
          · exact h
        rw [if_neg (by decide), if_pos rfl]
        dsimp only
        rw [if_neg (by rintro (h | h); exact h h4; cases h)]
        dsimp only
        rw [List.append_assoc, flats_back size os ⟨s.out, ⟨p, ks, [], true⟩ :: s.st⟩ _ w2 (by rw [List.length_cons]; omega)]
        have e2 : ∀ os', (⟨s.out, ⟨p, ks, [], true⟩ :: s.st⟩ : NSt).set os' = ⟨s.out, ⟨p, ks, os', true⟩ :: s.st⟩ := fun _ => rfl
        rw [show (⟨s.out, ⟨p, ks, [], true⟩ :: s.st⟩ : NSt).cur = [] from rfl, List.nil_append, e2, List.singleton_append, nestFrom, takeS]
        rw [if_neg (by decide), if_neg (by decide), if_pos rfl]
    · rw [if_neg hK]
      obtain ⟨rfl, rfl, h5, h6⟩ := hw.2 (by simpa using hK)
      rw [List.singleton_append, nestFrom, takeS, if_neg hK, if_neg h5, if_neg h6]
theorem flats_back (size : Int) : ∀ (ps : List Part) (s : NSt) (l : List Pc), wfs ps → s.st.length + deps ps ≤ 12 → nestFrom size (flats ps ++ l) s = nestFrom size l (s.set (s.cur ++ ps))
  | [], s, l, _, _ => by
    unfold flats
    rw [List.nil_append, List.append_nil, set_self]
  | q :: r, s, l, hw, hd => by
    unfold flats
    unfold wfs at hw
    simp only [deps] at hd
    rw [List.append_assoc, flat_back size q s _ hw.1 (by omega), flats_back size r _ l hw.2 (by unfold putS; rw [set_len]; omega)]
    unfold putS
    rw [set_cur, set_set, List.append_assoc, List.singleton_append]
end
/-- What was nested comes back from its pieces. -/
theorem nest_flat (ps : List Part) (size : Int) (hw : wfs ps) (hd : deps ps ≤ 12) : nestL (flats ps) size = ⟨ps, 0, 0⟩ := by
  have := flats_back size ps ⟨[], []⟩ [] hw (by show 0 + deps ps ≤ 12; omega)
  rw [List.append_nil] at this
  unfold nestL
  rw [this]
  rfl
end Go.Proofs.YthilkpjdfjjikaaDoor
