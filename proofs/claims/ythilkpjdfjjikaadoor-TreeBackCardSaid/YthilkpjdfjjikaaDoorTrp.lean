/-
  Trees of parts, plain: the program's nester and the document's block agree; depth, flat pieces.
-/
import Derived.Lib.Strings
import Derived.Test.YthilkpjdfjjikaaDoorMac
set_option linter.unusedVariables false
set_option linter.unusedSimpArgs false
namespace Go.Proofs.YthilkpjdfjjikaaDoor

/-- A piece, whatever its numbers. -/
structure Pc where
  kind : Int
  pos : Int
  text : Bs
  path : List Bs
  name : Bs
  place : Int
inductive Part where
  | mk (p : Pc) (kids other : List Part)
def Part.pc : Part → Pc | .mk p _ _ => p
def Part.kids : Part → List Part | .mk _ k _ => k
def Part.other : Part → List Part | .mk _ _ o => o

mutual
/-- How much a part holds. -/
def Part.size : Part → Nat | .mk p ks os => 1 + p.path.length + sizes ks + sizes os
def sizes : List Part → Nat | [] => 0 | q :: r => q.size + sizes r
end
mutual
def Part.dep : Part → Nat | .mk p ks os => if (p.kind == 3 || p.kind == 4) = true then 1 + max (deps ks) (deps os) else 0
def deps : List Part → Nat | [] => 0 | q :: r => max q.dep (deps r)
end
theorem sizes_len : ∀ l : List Part, l.length ≤ sizes l
  | [] => Nat.zero_le _
  | q :: r => by
    have := sizes_len r
    cases q
    simp only [sizes, Part.size, List.length_cons]; omega
theorem sizes_at : ∀ (l : List Part) (i : Nat) (q : Part), l[i]? = some q → q.size ≤ sizes l
  | [], i, q, h => by simp at h
  | x :: r, 0, q, h => by
    simp only [List.getElem?_cons_zero, Option.some.injEq] at h
    subst h; simp only [sizes]; omega
  | x :: r, i + 1, q, h => by
    have := sizes_at r i q (by simpa using h)
    simp only [sizes]; omega
theorem sizes_append : ∀ a b : List Part, sizes (a ++ b) = sizes a + sizes b
  | [], b => by simp [sizes]
  | q :: r, b => by rw [List.cons_append]; simp only [sizes]; rw [sizes_append r b]; omega
theorem deps_append : ∀ a b : List Part, deps (a ++ b) = max (deps a) (deps b)
  | [], b => by simp [deps]
  | q :: r, b => by rw [List.cons_append]; simp only [deps]; rw [deps_append r b]; omega
theorem deps_one (q : Part) : deps [q] = q.dep := by simp [deps]
theorem deps_snoc (l : List Part) (i : Nat) (q : Part) (h : l[i]? = some q) : deps (l.take (i + 1)) = max (deps (l.take i)) q.dep := by
  obtain ⟨hl, rfl⟩ := List.getElem?_eq_some_iff.1 h
  rw [List.take_succ_eq_append_getElem hl, deps_append, deps_one]
mutual
theorem dep_size : ∀ q : Part, q.dep ≤ q.size
  | .mk p ks os => by
    have h1 := deps_size ks
    have h2 := deps_size os
    simp only [Part.dep, Part.size]
    split <;> omega
theorem deps_size : ∀ l : List Part, deps l ≤ sizes l
  | [] => by simp [deps]
  | q :: r => by
    have h1 := dep_size q
    have h2 := deps_size r
    simp only [deps, sizes]; omega
end

/-! ### The program's nester -/
structure Fr where
  p : Pc
  kids : List Part
  other : List Part
  flag : Bool
structure NSt where
  out : List Part
  st : List Fr
def NSt.cur (s : NSt) : List Part := match s.st with | [] => s.out | f :: _ => if f.flag then f.other else f.kids
def NSt.set (s : NSt) (l : List Part) : NSt := match s.st with
  | [] => ⟨l, []⟩
  | f :: r => if f.flag then ⟨s.out, ⟨f.p, f.kids, l, f.flag⟩ :: r⟩ else ⟨s.out, ⟨f.p, l, f.other, f.flag⟩ :: r⟩
def putS (s : NSt) (q : Part) : NSt := s.set (s.cur ++ [q])
def blockK (k : Int) : Bool := k == 3 || k == 4
def takeS (s : NSt) (p : Pc) : Option NSt :=
  if blockK p.kind = true then (if 12 ≤ s.st.length then none else some ⟨s.out, ⟨p, [], [], false⟩ :: s.st⟩)
  else if p.kind = 5 then
    match s.st with
    | [] => none
    | f :: r => if f.p.kind ≠ 4 ∨ f.flag = true then none else some ⟨s.out, ⟨f.p, f.kids, f.other, true⟩ :: r⟩
  else if p.kind = 6 then
    match s.st with
    | [] => none
    | f :: r => some (putS ⟨s.out, r⟩ (.mk f.p f.kids f.other))
  else some (putS s (.mk p [] []))
structure NR where
  out : List Part
  pos : Int
  err : Int
def nestFrom (size : Int) : List Pc → NSt → NR
  | [], s => if s.st.length = 0 then ⟨s.out, 0, 0⟩ else ⟨[], size, 180⟩
  | p :: l, s => match takeS s p with
    | none => ⟨[], p.pos, 180⟩
    | some s' => nestFrom size l s'
def nestL (l : List Pc) (size : Int) : NR := nestFrom size l ⟨[], []⟩

/-! ### The document's block -/
structure BR where
  out : List Part
  k : Nat
  bad : Int
def pcAt (l : List Pc) (i : Nat) : Pc := l.getD i ⟨0, 0, [], [], [], 0⟩
def blockL : Nat → List Pc → Nat → Nat → List Part → BR
  | 0, _, i, _, out => ⟨out, i, -1⟩
  | F + 1, l, i, d, out =>
    if i < l.length then
      if (pcAt l i).kind = 5 ∨ (pcAt l i).kind = 6 then ⟨out, i, -1⟩
      else if blockK (pcAt l i).kind = true then
        if d = 12 then ⟨[], 0, i⟩
        else if 0 ≤ (blockL F l (i + 1) (d + 1) []).bad then ⟨[], 0, (blockL F l (i + 1) (d + 1) []).bad⟩
        else if (blockL F l (i + 1) (d + 1) []).k < l.length ∧ (pcAt l (blockL F l (i + 1) (d + 1) []).k).kind = 5 then
          if (pcAt l i).kind = 3 then ⟨[], 0, (blockL F l (i + 1) (d + 1) []).k⟩
          else if 0 ≤ (blockL F l ((blockL F l (i + 1) (d + 1) []).k + 1) (d + 1) []).bad then ⟨[], 0, (blockL F l ((blockL F l (i + 1) (d + 1) []).k + 1) (d + 1) []).bad⟩
          else if (blockL F l ((blockL F l (i + 1) (d + 1) []).k + 1) (d + 1) []).k < l.length ∧ (pcAt l (blockL F l ((blockL F l (i + 1) (d + 1) []).k + 1) (d + 1) []).k).kind = 5 then ⟨[], 0, (blockL F l ((blockL F l (i + 1) (d + 1) []).k + 1) (d + 1) []).k⟩
          else if (blockL F l ((blockL F l (i + 1) (d + 1) []).k + 1) (d + 1) []).k = l.length then ⟨[], 0, (blockL F l ((blockL F l (i + 1) (d + 1) []).k + 1) (d + 1) []).k⟩
          else blockL F l ((blockL F l ((blockL F l (i + 1) (d + 1) []).k + 1) (d + 1) []).k + 1) d (out ++ [.mk (pcAt l i) (blockL F l (i + 1) (d + 1) []).out (blockL F l ((blockL F l (i + 1) (d + 1) []).k + 1) (d + 1) []).out])
        else if (blockL F l (i + 1) (d + 1) []).k = l.length then ⟨[], 0, (blockL F l (i + 1) (d + 1) []).k⟩
        else blockL F l ((blockL F l (i + 1) (d + 1) []).k + 1) d (out ++ [.mk (pcAt l i) (blockL F l (i + 1) (d + 1) []).out []])
      else blockL F l (i + 1) d (out ++ [.mk (pcAt l i) [] []])
    else ⟨out, i, -1⟩
/-- A round of the block, its inner blocks given. -/
theorem blockL_step (F : Nat) (l : List Pc) (i d : Nat) (out : List Part) (hi : i < l.length) (p : Pc) (hp : pcAt l i = p) (b c : BR) (hb : blockL F l (i + 1) (d + 1) [] = b) (hc : blockL F l (b.k + 1) (d + 1) [] = c) :
    blockL (F + 1) l i d out =
      if p.kind = 5 ∨ p.kind = 6 then ⟨out, i, -1⟩
      else if blockK p.kind = true then
        if d = 12 then ⟨[], 0, i⟩
        else if 0 ≤ b.bad then ⟨[], 0, b.bad⟩
        else if b.k < l.length ∧ (pcAt l b.k).kind = 5 then
          if p.kind = 3 then ⟨[], 0, b.k⟩
          else if 0 ≤ c.bad then ⟨[], 0, c.bad⟩
          else if c.k < l.length ∧ (pcAt l c.k).kind = 5 then ⟨[], 0, c.k⟩
          else if c.k = l.length then ⟨[], 0, c.k⟩
          else blockL F l (c.k + 1) d (out ++ [.mk p b.out c.out])
        else if b.k = l.length then ⟨[], 0, b.k⟩
        else blockL F l (b.k + 1) d (out ++ [.mk p b.out []])
      else blockL F l (i + 1) d (out ++ [.mk p [] []]) := by
  subst hp hb hc
  rw [blockL, if_pos hi]
theorem drop_at (l : List Pc) (i : Nat) (h : i < l.length) : l.drop i = pcAt l i :: l.drop (i + 1) := by
  rw [List.drop_eq_getElem_cons h]
  congr 1
  unfold pcAt
  rw [List.getD_eq_getElem?_getD, List.getElem?_eq_getElem h]; rfl
theorem set_cur (s : NSt) (l : List Part) : (s.set l).cur = l := by
  unfold NSt.set
  split
  · rename_i h; unfold NSt.cur; rfl
  · rename_i f r h
    by_cases hf : f.flag = true
    · rw [if_pos hf]; unfold NSt.cur; dsimp only; rw [if_pos hf]
    · rw [if_neg hf]; unfold NSt.cur; dsimp only; rw [if_neg hf]
theorem set_len (s : NSt) (l : List Part) : (s.set l).st.length = s.st.length := by
  unfold NSt.set
  split
  · rename_i h; rw [h]
  · rename_i f r h
    rw [h]
    split <;> rfl
theorem set_set (s : NSt) (l m : List Part) : (s.set l).set m = s.set m := by
  obtain ⟨out, st⟩ := s
  cases st with
  | nil => rfl
  | cons f r =>
    obtain ⟨p, k, o, b⟩ := f
    cases b <;> rfl
theorem set_self (s : NSt) : s.set s.cur = s := by
  obtain ⟨out, st⟩ := s
  cases st with
  | nil => rfl
  | cons f r =>
    obtain ⟨p, k, o, b⟩ := f
    cases b <;> rfl
theorem put_set (s : NSt) (l : List Part) (q : Part) : putS (s.set l) q = s.set (l ++ [q]) := by
  unfold putS
  rw [set_cur, set_set]
theorem blockK_not {k : Int} (h : blockK k = true) : k ≠ 5 ∧ k ≠ 6 ∧ (k = 3 ∨ k = 4) := by
  unfold blockK at h
  rw [Bool.or_eq_true, beq_iff_eq, beq_iff_eq] at h
  omega
/-- What the document's answer makes of a bad place. -/
def badAt (l : List Pc) (size : Int) (j : Int) : NR := if j = l.length then ⟨[], size, 180⟩ else ⟨[], (pcAt l j.toNat).pos, 180⟩
/-- The block and the nester, side by side. -/
theorem block_nest (l : List Pc) (size : Int) : ∀ (F i d : Nat) (s : NSt), l.length - i < F → i ≤ l.length → s.st.length = d → d ≤ 12 →
    (0 ≤ (blockL F l i d s.cur).bad → (blockL F l i d s.cur).bad ≤ l.length ∧ nestFrom size (l.drop i) s = badAt l size (blockL F l i d s.cur).bad) ∧
    (¬ 0 ≤ (blockL F l i d s.cur).bad → i ≤ (blockL F l i d s.cur).k ∧ (blockL F l i d s.cur).k ≤ l.length ∧ ((blockL F l i d s.cur).k < l.length → (pcAt l (blockL F l i d s.cur).k).kind = 5 ∨ (pcAt l (blockL F l i d s.cur).k).kind = 6) ∧
      nestFrom size (l.drop i) s = nestFrom size (l.drop (blockL F l i d s.cur).k) (s.set (blockL F l i d s.cur).out))
  | 0, i, d, s, h, _, _, _ => by omega
  | F + 1, i, d, s, hF, hi, hd, h12 => by
    by_cases hil : i < l.length
    · obtain ⟨p, hp⟩ : ∃ p, pcAt l i = p := ⟨_, rfl⟩
      obtain ⟨b, hb⟩ : ∃ b, blockL F l (i + 1) (d + 1) [] = b := ⟨_, rfl⟩
      obtain ⟨c, hc⟩ : ∃ c, blockL F l (b.k + 1) (d + 1) [] = c := ⟨_, rfl⟩
      rw [blockL_step F l i d s.cur hil p hp b c hb hc]
      have hdr := drop_at l i hil
      rw [hp] at hdr
      by_cases h56 : p.kind = 5 ∨ p.kind = 6
      · rw [if_pos h56]
        refine ⟨fun h => by (have h : (0 : Int) ≤ -1 := h); omega, fun _ => ⟨Nat.le_refl _, by show i ≤ _; omega, fun _ => by show (pcAt l i).kind = 5 ∨ (pcAt l i).kind = 6; rw [hp]; exact h56, ?_⟩⟩
        show _ = nestFrom size (l.drop i) (s.set s.cur)
        rw [set_self]
      · rw [if_neg h56]
        by_cases hK : blockK p.kind = true
        · rw [if_pos hK]
          obtain ⟨_, _, hk34⟩ := blockK_not hK
          have hstep : nestFrom size (l.drop i) s = if 12 ≤ s.st.length then ⟨[], p.pos, 180⟩ else nestFrom size (l.drop (i + 1)) ⟨s.out, ⟨p, [], [], false⟩ :: s.st⟩ := by
            rw [hdr, nestFrom, takeS, if_pos hK]
            by_cases h : 12 ≤ s.st.length
            · rw [if_pos h, if_pos h]
            · rw [if_neg h, if_neg h]
          by_cases hd12 : d = 12
          · rw [if_pos hd12]
            refine ⟨fun _ => ⟨by show (i : Int) ≤ _; omega, ?_⟩, fun h => absurd (show (0 : Int) ≤ (i : Int) by omega) h⟩
            rw [hstep, if_pos (by omega)]
            show _ = badAt l size (i : Int)
            unfold badAt
            rw [if_neg (by omega), Int.toNat_natCast, hp]
          · rw [if_neg hd12]
            rw [if_neg (by omega)] at hstep
            obtain ⟨s1, hs1⟩ : ∃ s1 : NSt, s1 = ⟨s.out, ⟨p, [], [], false⟩ :: s.st⟩ := ⟨_, rfl⟩
            have hs1c : s1.cur = [] := by rw [hs1]; rfl
            have hs1l : s1.st.length = d + 1 := by rw [hs1]; simp [hd]
            rw [← hs1] at hstep
            have ih := block_nest l size F (i + 1) (d + 1) s1 (by omega) (by omega) hs1l (by omega)
            rw [hs1c, hb] at ih
            obtain ⟨ih1, ih2⟩ := ih
            by_cases hbb : 0 ≤ b.bad
            · rw [if_pos hbb]
              obtain ⟨j1, j2⟩ := ih1 hbb
              refine ⟨fun _ => ⟨j1, ?_⟩, fun h => absurd hbb h⟩
              rw [hstep, j2]
            · rw [if_neg hbb]
              obtain ⟨k1, k2, k3, k4⟩ := ih2 hbb
              rw [k4] at hstep
              by_cases hbe : b.k < l.length ∧ (pcAt l b.k).kind = 5
              · rw [if_pos hbe]
                have hdr2 := drop_at l b.k hbe.1
                have hs1s : s1.set b.out = ⟨s.out, ⟨p, b.out, [], false⟩ :: s.st⟩ := by rw [hs1]; rfl
                rw [hdr2, nestFrom, hs1s, takeS] at hstep
                rw [if_neg (by intro h; have := blockK_not h; omega), if_pos hbe.2] at hstep
                dsimp only at hstep
                by_cases h3 : p.kind = 3
                · rw [if_pos h3]
                  rw [if_pos (.inl (by omega))] at hstep
                  refine ⟨fun _ => ⟨by show (b.k : Int) ≤ _; omega, ?_⟩, fun h => absurd (show (0 : Int) ≤ (b.k : Int) by omega) h⟩
                  rw [hstep]
                  show _ = badAt l size (b.k : Int)
                  unfold badAt
                  rw [if_neg (by omega), Int.toNat_natCast]
                · rw [if_neg h3]
                  rw [if_neg (by rintro (h | h); omega; cases h)] at hstep
                  dsimp only at hstep
                  obtain ⟨s2, hs2⟩ : ∃ s2 : NSt, s2 = ⟨s.out, ⟨p, b.out, [], true⟩ :: s.st⟩ := ⟨_, rfl⟩
                  have hs2c : s2.cur = [] := by rw [hs2]; rfl
                  have hs2l : s2.st.length = d + 1 := by rw [hs2]; simp [hd]
                  rw [← hs2] at hstep
                  have ih := block_nest l size F (b.k + 1) (d + 1) s2 (by omega) (by omega) hs2l (by omega)
                  rw [hs2c, hc] at ih
                  obtain ⟨ih1, ih2⟩ := ih
                  by_cases hcb : 0 ≤ c.bad
                  · rw [if_pos hcb]
                    obtain ⟨j1, j2⟩ := ih1 hcb
                    refine ⟨fun _ => ⟨j1, ?_⟩, fun h => absurd hcb h⟩
                    rw [hstep, j2]
                  · rw [if_neg hcb]
                    obtain ⟨m1, m2, m3, m4⟩ := ih2 hcb
                    rw [m4] at hstep
                    have hs2s : s2.set c.out = ⟨s.out, ⟨p, b.out, c.out, true⟩ :: s.st⟩ := by rw [hs2]; rfl
                    rw [hs2s] at hstep
                    by_cases hce : c.k < l.length ∧ (pcAt l c.k).kind = 5
                    · rw [if_pos hce]
                      have hdr3 := drop_at l c.k hce.1
                      rw [hdr3, nestFrom, takeS] at hstep
                      rw [if_neg (by intro h; have := blockK_not h; omega), if_pos hce.2] at hstep
                      dsimp only at hstep
                      rw [if_pos (.inr rfl)] at hstep
                      refine ⟨fun _ => ⟨by show (c.k : Int) ≤ _; omega, ?_⟩, fun h => absurd (show (0 : Int) ≤ (c.k : Int) by omega) h⟩
                      rw [hstep]
                      show _ = badAt l size (c.k : Int)
                      unfold badAt
                      rw [if_neg (by omega), Int.toNat_natCast]
                    · rw [if_neg hce]
                      by_cases hcn : c.k = l.length
                      · rw [if_pos hcn]
                        refine ⟨fun _ => ⟨by show (c.k : Int) ≤ _; omega, ?_⟩, fun h => absurd (show (0 : Int) ≤ (c.k : Int) by omega) h⟩
                        rw [hstep, List.drop_of_length_le (by omega), nestFrom]
                        show _ = badAt l size (c.k : Int)
                        rw [show badAt l size (c.k : Int) = ⟨[], size, 180⟩ from by unfold badAt; rw [if_pos (by omega)]]
                        exact if_neg (Nat.succ_ne_zero _)
                      · rw [if_neg hcn]
                        have hck : c.k < l.length := by omega
                        have hk6 : (pcAt l c.k).kind = 6 := (m3 hck).resolve_left (fun h => hce ⟨hck, h⟩)
                        have hdr3 := drop_at l c.k hck
                        rw [hdr3, nestFrom, takeS] at hstep
                        rw [if_neg (by intro h; have := blockK_not h; omega), if_neg (by omega), if_pos hk6] at hstep
                        dsimp only at hstep
                        have hput : putS ⟨s.out, s.st⟩ (.mk p b.out c.out) = s.set (s.cur ++ [.mk p b.out c.out]) := rfl
                        rw [hput] at hstep
                        have ih := block_nest l size F (c.k + 1) d (s.set (s.cur ++ [.mk p b.out c.out])) (by omega) (by omega) (by rw [set_len]; exact hd) h12
                        rw [set_cur] at ih
                        rw [hstep]
                        refine ⟨ih.1, fun h => ?_⟩
                        obtain ⟨q1, q2, q3, q4⟩ := ih.2 h
                        exact ⟨by omega, q2, q3, by rw [q4, set_set]⟩
              · rw [if_neg hbe]
                by_cases hbn : b.k = l.length
                · rw [if_pos hbn]
                  refine ⟨fun _ => ⟨by show (b.k : Int) ≤ _; omega, ?_⟩, fun h => absurd (show (0 : Int) ≤ (b.k : Int) by omega) h⟩
                  have hs1s : s1.set b.out = ⟨s.out, ⟨p, b.out, [], false⟩ :: s.st⟩ := by rw [hs1]; rfl
                  rw [hstep, List.drop_of_length_le (by omega), nestFrom, hs1s]
                  show _ = badAt l size (b.k : Int)
                  rw [show badAt l size (b.k : Int) = ⟨[], size, 180⟩ from by unfold badAt; rw [if_pos (by omega)]]
                  exact if_neg (Nat.succ_ne_zero _)
                · rw [if_neg hbn]
                  have hbk : b.k < l.length := by omega
                  have hk6 : (pcAt l b.k).kind = 6 := (k3 hbk).resolve_left (fun h => hbe ⟨hbk, h⟩)
                  have hs1s : s1.set b.out = ⟨s.out, ⟨p, b.out, [], false⟩ :: s.st⟩ := by rw [hs1]; rfl
                  have hdr3 := drop_at l b.k hbk
                  rw [hdr3, nestFrom, hs1s, takeS] at hstep
                  rw [if_neg (by intro h; have := blockK_not h; omega), if_neg (by omega), if_pos hk6] at hstep
                  dsimp only at hstep
                  have hput : putS ⟨s.out, s.st⟩ (.mk p b.out []) = s.set (s.cur ++ [.mk p b.out []]) := rfl
                  rw [hput] at hstep
                  have ih := block_nest l size F (b.k + 1) d (s.set (s.cur ++ [.mk p b.out []])) (by omega) (by omega) (by rw [set_len]; exact hd) h12
                  rw [set_cur] at ih
                  rw [hstep]
                  refine ⟨ih.1, fun h => ?_⟩
                  obtain ⟨q1, q2, q3, q4⟩ := ih.2 h
                  exact ⟨by omega, q2, q3, by rw [q4, set_set]⟩
        · rw [if_neg hK]
          have hstep : nestFrom size (l.drop i) s = nestFrom size (l.drop (i + 1)) (s.set (s.cur ++ [.mk p [] []])) := by
            rw [hdr, nestFrom, takeS, if_neg hK, if_neg (fun h => h56 (.inl h)), if_neg (fun h => h56 (.inr h))]
            rfl
          have ih := block_nest l size F (i + 1) d (s.set (s.cur ++ [.mk p [] []])) (by omega) (by omega) (by rw [set_len]; exact hd) h12
          rw [set_cur] at ih
          rw [hstep]
          refine ⟨ih.1, fun h => ?_⟩
          obtain ⟨q1, q2, q3, q4⟩ := ih.2 h
          exact ⟨by omega, q2, q3, by rw [q4, set_set]⟩
    · rw [blockL, if_neg hil]
      refine ⟨fun h => by (have h : (0 : Int) ≤ -1 := h); omega, fun _ => ⟨Nat.le_refl _, hi, fun h => absurd h hil, ?_⟩⟩
      show _ = nestFrom size (l.drop i) (s.set s.cur)
      rw [set_self]
/-- The document's Nest. -/
def nestD (l : List Pc) (size : Int) : NR :=
  if 0 ≤ (blockL (l.length + 1) l 0 0 []).bad then badAt l size (blockL (l.length + 1) l 0 0 []).bad
  else if (blockL (l.length + 1) l 0 0 []).k < l.length then badAt l size (blockL (l.length + 1) l 0 0 []).k
  else ⟨(blockL (l.length + 1) l 0 0 []).out, 0, 0⟩
theorem nestD_eq (l : List Pc) (size : Int) : nestD l size = nestL l size := by
  have h := block_nest l size (l.length + 1) 0 0 ⟨[], []⟩ (by omega) (Nat.zero_le _) rfl (Nat.zero_le _)
  rw [show (⟨[], []⟩ : NSt).cur = [] from rfl, List.drop_zero] at h
  unfold nestD nestL
  generalize blockL (l.length + 1) l 0 0 [] = b at *
  by_cases hb : 0 ≤ b.bad
  · rw [if_pos hb]; exact (h.1 hb).2.symm
  · rw [if_neg hb]
    obtain ⟨_, h2, h3, h4⟩ := h.2 hb
    rw [h4]
    by_cases hk : b.k < l.length
    · rw [if_pos hk, drop_at l b.k hk, nestFrom, takeS]
      have h56 := h3 hk
      rw [if_neg (by intro h; have := blockK_not h; omega)]
      show _ = _
      unfold badAt
      rw [if_neg (by omega), Int.toNat_natCast]
      by_cases h5 : (pcAt l b.k).kind = 5
      · rw [if_pos h5]; rfl
      · rw [if_neg h5, if_pos (h56.resolve_left h5)]; rfl
    · rw [if_neg hk, List.drop_of_length_le (by omega)]
      rfl
end Go.Proofs.YthilkpjdfjjikaaDoor
