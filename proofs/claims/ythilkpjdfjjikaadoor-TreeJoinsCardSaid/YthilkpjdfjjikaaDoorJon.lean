/-
  Templates one behind the other: their parts, plain.
-/
import Derived.Test.YthilkpjdfjjikaaDoorJoi
import Derived.Test.YthilkpjdfjjikaaDoorTrs
import Derived.Test.YthilkpjdfjjikaaDoorPar
set_option linter.unusedVariables false
set_option linter.unusedSimpArgs false
namespace Go.Proofs.YthilkpjdfjjikaaDoor
open Go.RowKit

/-- The nester's state behind some pieces. -/
def runS : List Pc → NSt → Option NSt
  | [], s => some s
  | p :: l, s => (takeS s p).bind (runS l)
theorem runS_append : ∀ (a b : List Pc) (s : NSt), runS (a ++ b) s = (runS a s).bind (runS b)
  | [], b, s => rfl
  | p :: a, b, s => by
    rw [List.cons_append]
    unfold runS
    cases takeS s p with
    | none => rfl
    | some s' => exact runS_append a b s'
theorem nest_run (size : Int) : ∀ (l : List Pc) (s : NSt), (nestFrom size l s).err = 0 → ∃ o, runS l s = some ⟨o, []⟩ ∧ (nestFrom size l s).out = o
  | [], s, h => by
    unfold nestFrom at h ⊢
    by_cases hs : s.st.length = 0
    · rw [if_pos hs]
      obtain ⟨o, st⟩ := s
      obtain rfl := List.length_eq_zero_iff.1 hs
      exact ⟨o, rfl, rfl⟩
    · rw [if_neg hs] at h; exact absurd h (show (180 : Int) ≠ 0 by decide)
  | p :: l, s, h => by
    unfold nestFrom runS at *
    cases ht : takeS s p with
    | none => rw [ht] at h; exact absurd h (show (180 : Int) ≠ 0 by decide)
    | some s' =>
      rw [ht] at h
      exact nest_run size l s' h
theorem run_nest (size : Int) : ∀ (l : List Pc) (s : NSt) (o : List Part), runS l s = some ⟨o, []⟩ → nestFrom size l s = ⟨o, 0, 0⟩
  | [], s, o, h => by
    unfold runS at h
    injection h with h
    subst h
    unfold nestFrom
    exact if_pos rfl
  | p :: l, s, o, h => by
    unfold nestFrom
    unfold runS at h
    cases ht : takeS s p with
    | none => rw [ht] at h; cases h
    | some s' => rw [ht] at h; exact run_nest size l s' o h
theorem take_lit (s : NSt) (p : Pc) (h : p.kind = 0) : takeS s p = some (putS s (.mk p [] [])) := by
  unfold takeS
  rw [if_neg (by unfold blockK; rw [h]; decide), if_neg (by rw [h]; decide), if_neg (by rw [h]; decide)]
theorem put_top (o : List Part) (q : Part) : putS ⟨o, []⟩ q = ⟨o ++ [q], []⟩ := rfl
theorem dep_lit (p : Pc) (h : p.kind = 0) : (Part.mk p [] []).dep = 0 := by
  simp only [Part.dep]
  rw [if_neg (by rw [h]; decide)]

/-! ### Alike, behind other parts -/
def SimF (f g : Fr) : Prop := f.p.kind = g.p.kind ∧ f.flag = g.flag ∧ deps f.kids = deps g.kids ∧ deps f.other = deps g.other
def SimL : List Fr → List Fr → Prop
  | [], [] => True
  | f :: r, g :: t => SimF f g ∧ SimL r t
  | _, _ => False
theorem simL_len : ∀ (a b : List Fr), SimL a b → a.length = b.length
  | [], [], _ => rfl
  | f :: r, g :: t, h => by rw [List.length_cons, List.length_cons, simL_len r t h.2]
  | [], _ :: _, h => h.elim
  | _ :: _, [], h => h.elim
def SimS (P : List Part) (s t : NSt) : Prop := (∃ r, t.out = P ++ r ∧ r.length + 1 = s.out.length ∧ deps r = deps s.out) ∧ SimL s.st t.st
theorem sim_put {P : List Part} {s t : NSt} (h : SimS P s t) (q q' : Part) (hq : q.dep = q'.dep) : SimS P (putS s q) (putS t q') := by
  obtain ⟨out, st⟩ := s
  obtain ⟨out', st'⟩ := t
  obtain ⟨⟨r, h1, h2, h3⟩, h4⟩ := h
  dsimp only at h1 h2 h3 h4
  subst h1
  match st, st', h4 with
  | [], [], _ =>
    refine ⟨⟨r ++ [q'], ?_, ?_, ?_⟩, trivial⟩
    · show P ++ r ++ [q'] = _; rw [List.append_assoc]
    · show _ = (out ++ [q]).length; rw [List.length_append, List.length_append, List.length_singleton, List.length_singleton]; omega
    · show _ = deps (out ++ [q]); rw [deps_append, deps_append, deps_one, deps_one, h3, hq]
  | ⟨p, k, o, b⟩ :: rr, ⟨p', k', o', b'⟩ :: tt, h4 =>
    obtain ⟨⟨g1, g2, g3, g4⟩, g5⟩ := h4
    dsimp only at g1 g2 g3 g4
    subst g2
    cases b
    · exact ⟨⟨r, rfl, h2, h3⟩, ⟨g1, rfl, by show deps (k ++ [q]) = deps (k' ++ [q']); rw [deps_append, deps_append, deps_one, deps_one, g3, hq], g4⟩, g5⟩
    · exact ⟨⟨r, rfl, h2, h3⟩, ⟨g1, rfl, g3, by show deps (o ++ [q]) = deps (o' ++ [q']); rw [deps_append, deps_append, deps_one, deps_one, g4, hq]⟩, g5⟩
theorem dep_sim (p p' : Pc) (ks os ks' os' : List Part) (h : p.kind = p'.kind) (h1 : deps ks = deps ks') (h2 : deps os = deps os') : (Part.mk p ks os).dep = (Part.mk p' ks' os').dep := by
  simp only [Part.dep]
  rw [h, h1, h2]
theorem sim_take {P : List Part} {s t s' : NSt} (h : SimS P s t) (p p' : Pc) (hp : p.kind = p'.kind) (ht : takeS s p = some s') : ∃ t', takeS t p' = some t' ∧ SimS P s' t' := by
  have h' := h
  obtain ⟨h1, h4⟩ := h'
  have hlen := simL_len _ _ h4
  unfold takeS at ht ⊢
  rw [← hp, ← hlen]
  split at ht
  · rename_i hK
    rw [if_pos hK]
    split at ht
    · cases ht
    · rename_i hn
      rw [if_neg hn]
      injection ht with ht; subst ht
      exact ⟨_, rfl, h1, ⟨hp, rfl, rfl, rfl⟩, h4⟩
  · rename_i hK
    rw [if_neg hK]
    split at ht
    · rename_i h5
      rw [if_pos h5]
      obtain ⟨out, st⟩ := s
      obtain ⟨out', st'⟩ := t
      dsimp only at h1 h4 ht ⊢
      match st, st', h4 with
      | [], [], _ => cases ht
      | f :: rr, g :: tt, h4 =>
        obtain ⟨⟨g1, g2, g3, g4⟩, g5⟩ := h4
        dsimp only at ht ⊢
        rw [← g1, ← g2]
        split at ht
        · cases ht
        · rename_i hc
          rw [if_neg hc]
          injection ht with ht; subst ht
          exact ⟨_, rfl, h1, ⟨g1, rfl, g3, g4⟩, g5⟩
    · rename_i h5
      rw [if_neg h5]
      split at ht
      · rename_i h6
        rw [if_pos h6]
        obtain ⟨out, st⟩ := s
        obtain ⟨out', st'⟩ := t
        dsimp only at h1 h4 ht ⊢
        match st, st', h4 with
        | [], [], _ => cases ht
        | f :: rr, g :: tt, h4 =>
          obtain ⟨⟨g1, g2, g3, g4⟩, g5⟩ := h4
          dsimp only at ht ⊢
          injection ht with ht; subst ht
          exact ⟨_, rfl, sim_put ⟨h1, g5⟩ _ _ (dep_sim _ _ _ _ _ _ g1 g3 g4)⟩
      · rename_i h6
        rw [if_neg h6]
        injection ht with ht; subst ht
        exact ⟨_, rfl, sim_put h _ _ (dep_sim _ _ _ _ _ _ hp rfl rfl)⟩
theorem sim_run {P : List Part} : ∀ (l l' : List Pc) (s t s' : NSt), SimS P s t → l.map (·.kind) = l'.map (·.kind) → runS l s = some s' → ∃ t', runS l' t = some t' ∧ SimS P s' t'
  | [], [], s, t, s', h, _, hr => by
    unfold runS at hr ⊢
    injection hr with hr; subst hr
    exact ⟨t, rfl, h⟩
  | p :: l, p' :: l', s, t, s', h, hk, hr => by
    rw [List.map_cons, List.map_cons] at hk
    injection hk with hk1 hk2
    unfold runS at hr ⊢
    cases ht : takeS s p with
    | none => rw [ht] at hr; cases hr
    | some s1 =>
      rw [ht] at hr
      obtain ⟨t1, e1, e2⟩ := sim_take h p p' hk1 ht
      rw [e1]
      exact sim_run l l' s1 t1 s' e2 hk2 hr
  | [], _ :: _, _, _, _, _, hk, _ => by cases hk
  | _ :: _, [], _, _, _, _, hk, _ => by cases hk
theorem parseL_ok (s : Bs) (h : (parseL s).err = 0) : (lexL s).err = 0 ∧ parseL s = nestL ((lexL s).out.map toPc) s.length := by
  unfold parseL at h ⊢
  by_cases h0 : (lexL s).err ≠ 0
  · rw [if_pos h0] at h
    exact absurd (show (lexL s).err = 0 from by have h : (((lexL s).err : Nat) : Int) = 0 := h; omega) h0
  · rw [if_neg h0]
    exact ⟨Classical.byContradiction h0, rfl⟩
/-- The parts of two templates, with a literal between. -/
theorem parse_join (a b : Bs) (ha : a.length ≤ 2000) (hb : b.length ≤ 2000) (hx : (parseL (a ++ [124])).err = 0) (hy : (parseL (124 :: b)).err = 0) :
    ∃ o q q' r, (parseL (a ++ [124])).out = o ++ [q] ∧ parseL (a ++ 124 :: 124 :: b) = ⟨o ++ q' :: r, 0, 0⟩ ∧ r.length + 1 = (parseL (124 :: b)).out.length ∧
      deps (o ++ q' :: r) = max (deps (o ++ [q])) (deps (parseL (124 :: b)).out) := by
  obtain ⟨x1, x2⟩ := parseL_ok _ hx
  obtain ⟨y1, y2⟩ := parseL_ok _ hy
  obtain ⟨xs, k1, l, r, ys', e1, e2, e3⟩ := lexL_join a b ha hb x1 y1
  rw [x2] at hx ⊢
  rw [y2] at hy ⊢
  rw [e1] at hx ⊢
  rw [e2] at hy ⊢
  unfold nestL at hx hy ⊢
  obtain ⟨ox, rx, hox⟩ := nest_run _ _ _ hx
  obtain ⟨oy, ry, hoy⟩ := nest_run _ _ _ hy
  rw [hox, hoy]
  rw [List.map_append, runS_append] at rx
  cases hs : runS (xs.map toPc) ⟨[], []⟩ with
  | none => rw [hs] at rx; cases rx
  | some s1 =>
    rw [hs] at rx
    have rx : runS [toPc ⟨0, k1, l, [], [], 0⟩] s1 = some ⟨ox, []⟩ := rx
    unfold runS at rx
    rw [take_lit _ _ rfl] at rx
    have rx : some (putS s1 (.mk (toPc ⟨0, k1, l, [], [], 0⟩) [] [])) = some ⟨ox, []⟩ := rx
    injection rx with rx
    have hst : s1.st = [] := by
      have h1 : (putS s1 (.mk (toPc ⟨0, k1, l, [], [], 0⟩) [] [])).st.length = s1.st.length := set_len _ _
      rw [rx] at h1
      exact List.length_eq_zero_iff.1 h1.symm
    obtain ⟨o, st⟩ := s1
    dsimp only at hst
    subst hst
    rw [put_top] at rx
    injection rx with rx _
    rw [List.map_cons] at ry
    unfold runS at ry
    rw [take_lit _ _ rfl, put_top] at ry
    have ry : runS (ys'.map toPc) ⟨[.mk (toPc ⟨0, 0, r, [], [], 0⟩) [] []], []⟩ = some ⟨oy, []⟩ := ry
    obtain ⟨t', ht, hsim⟩ := sim_run (P := o ++ [.mk (toPc ⟨0, k1, l ++ r, [], [], 0⟩) [] []]) (ys'.map toPc) ((ys'.map (shP (a.length + 1))).map toPc) ⟨[.mk (toPc ⟨0, 0, r, [], [], 0⟩) [] []], []⟩ ⟨o ++ [.mk (toPc ⟨0, k1, l ++ r, [], [], 0⟩) [] []], []⟩ ⟨oy, []⟩
      ⟨⟨[], by simp, rfl, by rw [deps_one, dep_lit _ rfl]; rfl⟩, trivial⟩ (by simp [toPc, shP]) ry
    obtain ⟨⟨r', g1, g2, g3⟩, g4⟩ := hsim
    obtain ⟨out', st'⟩ := t'
    dsimp only at g1 g2 g3 g4
    have hst' : st' = [] := List.length_eq_zero_iff.1 (simL_len _ _ g4).symm
    subst hst' g1
    refine ⟨o, .mk (toPc ⟨0, k1, l, [], [], 0⟩) [] [], .mk (toPc ⟨0, k1, l ++ r, [], [], 0⟩) [] [], r', rx.symm, ?_, g2, ?_⟩
    · unfold parseL
      rw [e3]
      rw [if_neg (by simp)]
      unfold nestL
      refine run_nest _ _ _ _ ?_
      rw [List.map_append, runS_append, hs]
      show runS (toPc ⟨0, k1, l ++ r, [], [], 0⟩ :: (ys'.map (shP (a.length + 1))).map toPc) ⟨o, []⟩ = _
      unfold runS
      rw [take_lit _ _ rfl, put_top]
      show runS _ _ = _
      rw [ht, List.append_assoc]; rfl
    · rw [deps_append, deps_append, deps_one, show ∀ (q : Part) (r : List Part), deps (q :: r) = max q.dep (deps r) from fun _ _ => rfl, dep_lit _ rfl, dep_lit _ rfl, g3]
      omega
end Go.Proofs.YthilkpjdfjjikaaDoor
