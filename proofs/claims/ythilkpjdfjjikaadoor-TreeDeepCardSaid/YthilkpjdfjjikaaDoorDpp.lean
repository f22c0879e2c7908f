/-
  Blocks within one another: the lexer and the nester, plain.
-/
import Derived.Test.YthilkpjdfjjikaaDoorJon
set_option linter.unusedVariables false
set_option linter.unusedSimpArgs false
namespace Go.Proofs.YthilkpjdfjjikaaDoor
open Go.RowKit

/-- A tag's text. -/
def tagT (w : Bs) : Bs := 123 :: 123 :: (w ++ [125, 125])
def wIf : Bs := [105, 102, 32, 97]
def wFor : Bs := [102, 111, 114, 32, 120, 32, 105, 110, 32, 97]
def wEnd : Bs := [101, 110, 100]
theorem tag_if0 : tagL wIf = some ⟨4, 0, [], [[97]], [], 0⟩ := by kernel_rfl
theorem tag_for0 : tagL wFor = some ⟨3, 0, [], [[97]], [120], 0⟩ := by kernel_rfl
theorem tag_end0 : tagL wEnd = some ⟨6, 0, [], [], [], 0⟩ := by kernel_rfl
theorem cut_here (R : Bs) : Lib.cut (123 :: 123 :: R) [123, 123] = ([], R, true) := cut_at 123 123 R [] (fun _ h => by cases h)
theorem lex_tags : ∀ (ws : List (Bs × Nat)) (k : Nat) (m : Mach), m.st = 0 → (∀ w ∈ ws, (∃ p, tagL w.1 = some p ∧ p.kind = w.2) ∧ ∀ x ∈ w.1, x ≠ 125) →
    ∃ ps, LexOk (ws.flatMap fun w => tagT w.1) k m ps ∧ ps.map (·.kind) = ws.map (·.2)
  | [], k, m, hm, _ => ⟨[], lex_end0 k m hm, rfl⟩
  | w :: ws, k, m, hm, h => by
    obtain ⟨⟨p, hp, hk⟩, hx⟩ := h w List.mem_cons_self
    obtain ⟨ps, h1, h2⟩ := lex_tags ws (k + ([] : Bs).length + (w.1.length + 4)) { m with filled := true } hm (fun v hv => h v (List.mem_cons_of_mem _ hv))
    have hpl : plc (([] : Bs).foldl stepM m) = (0, true) := by
      show placeL m.st m.attr m.filled = _
      rw [hm]; exact place_0 _ _
    have e : (w :: ws).flatMap (fun w => tagT w.1) = 123 :: 123 :: (w.1 ++ 125 :: 125 :: ws.flatMap fun w => tagT w.1) := by
      rw [List.flatMap_cons]; unfold tagT; simp
    rw [e]
    have := LexOk.tag _ k m [] _ w.1 _ p ps (cut_here _) hp (cut_at 125 125 _ w.1 hx) (by rw [hpl]) (by rw [hpl]; exact .inr rfl) h1
    exact ⟨_, this, by show p.kind :: ps.map (·.kind) = w.2 :: ws.map (·.2); rw [h2, hk]⟩
theorem bad_ascii (t : Bs) (h : ∀ x ∈ t, x.toNat < 128) : badL t = none := by
  have e : t = (t.map (·.toNat)).flatMap oneL := by
    induction t with
    | nil => rfl
    | cons x r ih =>
      have h1 : oneL x.toNat = [x] := by unfold oneL; rw [if_pos (h x List.mem_cons_self), ofn _ x rfl]
      rw [List.map_cons, List.flatMap_cons, h1, ← ih (fun y hy => h y (List.mem_cons_of_mem _ hy))]; rfl
  unfold badL
  rw [show badFrom t.length t 0 = badFrom t.length ((t.map (·.toNat)).flatMap oneL) 0 from congrArg (fun z => badFrom t.length z 0) e]
  refine bad_pts _ _ 0 fun p hp => ?_
  obtain ⟨x, hx, rfl⟩ := List.mem_map.1 hp
  have := h x hx
  simp only [isPt, Bool.and_eq_true, Bool.or_eq_true, decide_eq_true_eq]; omega

/-! ### The nester -/
def newFr (p : Pc) : Fr := ⟨p, [], [], false⟩
theorem run_opens : ∀ (l : List Pc) (s : NSt), (∀ p ∈ l, blockK p.kind = true) → s.st.length + l.length ≤ 12 → runS l s = some ⟨s.out, (l.map newFr).reverse ++ s.st⟩
  | [], s, _, _ => rfl
  | p :: l, s, h, hn => by
    rw [List.length_cons] at hn
    unfold runS
    have e : takeS s p = some ⟨s.out, newFr p :: s.st⟩ := by
      unfold takeS
      rw [if_pos (h p List.mem_cons_self), if_neg (by omega)]; rfl
    rw [e]
    show runS l _ = _
    rw [run_opens l ⟨s.out, newFr p :: s.st⟩ (fun q hq => h q (List.mem_cons_of_mem _ hq)) (by rw [List.length_cons]; omega)]
    simp
theorem opens_no (size : Int) (r : List Pc) : ∀ (l : List Pc) (s : NSt), (∀ p ∈ l, blockK p.kind = true) → s.st.length ≤ 12 → 12 < s.st.length + l.length → (nestFrom size (l ++ r) s).err = 180
  | [], s, _, h1, h2 => by rw [List.length_nil] at h2; omega
  | p :: l, s, h, h1, h2 => by
    rw [List.length_cons] at h2
    rw [List.cons_append]
    unfold nestFrom
    by_cases h12 : 12 ≤ s.st.length
    · have e : takeS s p = none := by
        unfold takeS
        rw [if_pos (h p List.mem_cons_self), if_pos h12]
      rw [e]
    · have e : takeS s p = some ⟨s.out, newFr p :: s.st⟩ := by
        unfold takeS
        rw [if_pos (h p List.mem_cons_self), if_neg h12]; rfl
      rw [e]
      exact opens_no size r l _ (fun q hq => h q (List.mem_cons_of_mem _ hq)) (by rw [List.length_cons]; omega) (by rw [List.length_cons]; omega)
theorem run_closes : ∀ (l : List Pc) (f : Fr) (st : List Fr), (∀ p ∈ l, p.kind = 6) → l.length = st.length + 1 → blockK f.p.kind = true → f.flag = false → f.other = [] → (∀ g ∈ st, ∃ p, g = newFr p ∧ blockK p.kind = true) →
    ∃ o, runS l ⟨[], f :: st⟩ = some ⟨o, []⟩ ∧ deps o = deps f.kids + l.length
  | [], f, st, _, h, _, _, _, _ => by simp at h
  | p :: l, f, st, h6, hl, hk, hfl, hfo, hst => by
    have hd : (Part.mk f.p f.kids f.other).dep = 1 + deps f.kids := by
      rw [hfo]
      simp only [Part.dep]
      rw [if_pos (show (f.p.kind == 3 || f.p.kind == 4) = true from hk)]
      simp [deps]
    have e : takeS ⟨[], f :: st⟩ p = some (putS ⟨[], st⟩ (.mk f.p f.kids f.other)) := by
      have hp := h6 p List.mem_cons_self
      unfold takeS
      rw [if_neg (by rw [hp]; decide), if_neg (by rw [hp]; decide), if_pos hp]
    unfold runS
    rw [e]
    show ∃ o, runS l _ = _ ∧ _
    rw [List.length_cons] at hl
    match st, hl, hst with
    | [], hl, _ =>
      obtain rfl : l = [] := List.length_eq_zero_iff.1 (by simpa using hl)
      exact ⟨_, rfl, by show deps [Part.mk f.p f.kids f.other] = _; rw [deps_one, hd, List.length_singleton]; omega⟩
    | g :: st', hl, hst =>
      obtain ⟨q, rfl, hq⟩ := hst g List.mem_cons_self
      rw [List.length_cons] at hl
      obtain ⟨o, h1, h2⟩ := run_closes l ⟨q, [Part.mk f.p f.kids f.other], [], false⟩ st' (fun x hx => h6 x (List.mem_cons_of_mem _ hx)) (by omega) hq rfl rfl (fun x hx => hst x (List.mem_cons_of_mem _ hx))
      refine ⟨o, h1, ?_⟩
      rw [h2]
      dsimp only
      rw [deps_one, hd, List.length_cons]; omega
/-- The text: so many openings, as many ends. -/
def openT (fs : List Bool) : Bs := fs.flatMap fun b => tagT (if b then wIf else wFor)
def closeT (k : Nat) : Bs := (List.replicate k wEnd).flatMap tagT
theorem openT_snoc (fs : List Bool) (b : Bool) : openT (fs ++ [b]) = openT fs ++ tagT (if b then wIf else wFor) := by
  unfold openT; rw [List.flatMap_append]; simp
theorem closeT_succ (k : Nat) : closeT (k + 1) = tagT wEnd ++ closeT k := by
  unfold closeT; rw [List.replicate_succ, List.flatMap_cons]
theorem openT_len : ∀ fs : List Bool, (openT fs).length ≤ 14 * fs.length
  | [] => by decide
  | b :: r => by
    have := openT_len r
    unfold openT at this ⊢
    rw [List.flatMap_cons, List.length_append, List.length_cons]
    have h : (tagT (if b then wIf else wFor)).length ≤ 14 := by cases b <;> decide
    omega
theorem closeT_len : ∀ k : Nat, (closeT k).length = 7 * k
  | 0 => rfl
  | k + 1 => by rw [closeT_succ, List.length_append, closeT_len k]; show 7 + _ = _; omega
def deepW (fs : List Bool) : List (Bs × Nat) := (fs.map fun b => if b then (wIf, 4) else (wFor, 3)) ++ List.replicate fs.length (wEnd, 6)
theorem deepW_text (fs : List Bool) : (deepW fs).flatMap (fun w => tagT w.1) = openT fs ++ closeT fs.length := by
  unfold deepW openT closeT
  rw [List.flatMap_append, List.flatMap_map]
  congr 1
  · congr 1
    funext b
    cases b <;> rfl
  · generalize fs.length = k
    induction k with
    | zero => rfl
    | succ k ih => rw [List.replicate_succ, List.replicate_succ, List.flatMap_cons, List.flatMap_cons, ih]
theorem tagT_ascii (w : Bs) (h : ∀ x ∈ w, x.toNat < 128) : ∀ x ∈ tagT w, x.toNat < 128 := by
  intro x hx
  unfold tagT at hx
  rcases List.mem_cons.1 hx with rfl | hx
  · decide
  · rcases List.mem_cons.1 hx with rfl | hx
    · decide
    · rcases List.mem_append.1 hx with hx | hx
      · exact h x hx
      · simp only [List.mem_cons, List.not_mem_nil, or_false] at hx
        rcases hx with rfl | rfl <;> decide
theorem deep_ok (fs : List Bool) : ∀ w ∈ deepW fs, (∃ p, tagL w.1 = some p ∧ p.kind = w.2) ∧ (∀ x ∈ w.1, x ≠ 125) ∧ ∀ x ∈ w.1, x.toNat < 128 := by
  intro w hw
  have : w = (wIf, 4) ∨ w = (wFor, 3) ∨ w = (wEnd, 6) := by
    unfold deepW at hw
    rcases List.mem_append.1 hw with hw | hw
    · obtain ⟨b, _, rfl⟩ := List.mem_map.1 hw
      cases b
      · exact .inr (.inl rfl)
      · exact .inl rfl
    · exact .inr (.inr (List.eq_of_mem_replicate hw))
  rcases this with rfl | rfl | rfl
  · exact ⟨⟨_, tag_if0, rfl⟩, by decide, by decide⟩
  · exact ⟨⟨_, tag_for0, rfl⟩, by decide, by decide⟩
  · exact ⟨⟨_, tag_end0, rfl⟩, by decide, by decide⟩
theorem deep_parse (fs : List Bool) (h : fs.length ≤ 29) :
    (12 < fs.length → (parseL (openT fs ++ closeT fs.length)).err = 180) ∧ (fs.length ≤ 12 → (parseL (openT fs ++ closeT fs.length)).err = 0 ∧ deps (parseL (openT fs ++ closeT fs.length)).out = fs.length) := by
  obtain ⟨ps, h1, h2⟩ := lex_tags (deepW fs) 0 mach0 rfl (fun w hw => ⟨(deep_ok fs w hw).1, (deep_ok fs w hw).2.1⟩)
  have hbad : badL (openT fs ++ closeT fs.length) = none := by
    rw [← deepW_text]
    refine bad_ascii _ fun x hx => ?_
    obtain ⟨w, hw, hx⟩ := List.mem_flatMap.1 hx
    exact tagT_ascii _ (deep_ok fs w hw).2.2 x hx
  rw [deepW_text] at h1
  have hlen := openT_len fs
  have hlen2 := closeT_len fs.length
  have hL := lexL_of _ ps (by rw [List.length_append]; omega) hbad h1
  have hp : parseL (openT fs ++ closeT fs.length) = nestL (ps.map toPc) (openT fs ++ closeT fs.length).length := by
    unfold parseL
    rw [hL, if_neg (by simp)]
  rw [hp]
  generalize ((openT fs ++ closeT fs.length).length : Int) = size
  have hpl : ps.length = fs.length + fs.length := by
    have := congrArg List.length h2
    rw [List.length_map, List.length_map] at this
    rw [this]; unfold deepW; simp
  have hk1 : ∀ p ∈ (ps.take fs.length).map toPc, blockK p.kind = true := by
    intro p hp
    obtain ⟨q, hq, rfl⟩ := List.mem_map.1 hp
    have e : (ps.take fs.length).map (·.kind) = (fs.map fun b => if b then (4 : Nat) else 3) := by
      rw [List.map_take, h2]
      unfold deepW
      rw [List.map_append, List.take_append_of_le_length (by simp), List.take_of_length_le (by simp), List.map_map]
      congr 1
      funext b
      cases b <;> rfl
    have hm : q.kind ∈ (ps.take fs.length).map (·.kind) := List.mem_map.2 ⟨q, hq, rfl⟩
    rw [e] at hm
    obtain ⟨b, _, hb⟩ := List.mem_map.1 hm
    show blockK (q.kind : Int) = true
    cases b
    · rw [← hb]; decide
    · rw [← hb]; decide
  have hk2 : ∀ p ∈ (ps.drop fs.length).map toPc, p.kind = 6 := by
    intro p hp
    obtain ⟨q, hq, rfl⟩ := List.mem_map.1 hp
    have e : (ps.drop fs.length).map (·.kind) = List.replicate fs.length 6 := by
      rw [List.map_drop, h2]
      unfold deepW
      rw [List.map_append, List.drop_append_of_le_length (by simp), List.drop_of_length_le (by simp), List.nil_append, List.map_replicate]
    have hm : q.kind ∈ (ps.drop fs.length).map (·.kind) := List.mem_map.2 ⟨q, hq, rfl⟩
    rw [e] at hm
    have := List.eq_of_mem_replicate hm
    show (q.kind : Int) = 6
    omega
  have hsplit : ps.map toPc = (ps.take fs.length).map toPc ++ (ps.drop fs.length).map toPc := by
    rw [← List.map_append, List.take_append_drop]
  have hl1 : ((ps.take fs.length).map toPc).length = fs.length := by rw [List.length_map, List.length_take]; omega
  have hl2 : ((ps.drop fs.length).map toPc).length = fs.length := by rw [List.length_map, List.length_drop]; omega
  rw [hsplit]
  generalize (ps.take fs.length).map toPc = A at *
  generalize (ps.drop fs.length).map toPc = B at *
  unfold nestL
  refine ⟨fun h12 => opens_no size B A ⟨[], []⟩ hk1 (Nat.zero_le _) (by show 12 < 0 + A.length; omega), fun h12 => ?_⟩
  have hr := run_opens A ⟨[], []⟩ hk1 (by show 0 + A.length ≤ 12; omega)
  rw [show (⟨[], []⟩ : NSt).st = [] from rfl, List.append_nil] at hr
  have hfr : ∀ g ∈ (A.map newFr).reverse, ∃ p, g = newFr p ∧ blockK p.kind = true := by
    intro g hg
    rw [List.mem_reverse] at hg
    obtain ⟨p, hp, rfl⟩ := List.mem_map.1 hg
    exact ⟨p, rfl, hk1 p hp⟩
  have hfl : (A.map newFr).reverse.length = fs.length := by rw [List.length_reverse, List.length_map, hl1]
  have hfin : ∃ o, runS (A ++ B) ⟨[], []⟩ = some ⟨o, []⟩ ∧ deps o = fs.length := by
    rw [runS_append, hr]
    show ∃ o, runS B _ = _ ∧ _
    match hst : (A.map newFr).reverse with
    | [] =>
      rw [hst] at hfl
      obtain rfl : B = [] := List.length_eq_zero_iff.1 (by rw [hl2, ← hfl]; rfl)
      exact ⟨[], rfl, by rw [← hfl]; rfl⟩
    | f :: st =>
      rw [hst] at hfl hfr
      rw [List.length_cons] at hfl
      obtain ⟨p, rfl, hp⟩ := hfr f List.mem_cons_self
      obtain ⟨o, h1, h2⟩ := run_closes B (newFr p) st hk2 (by omega) hp rfl rfl (fun g hg => hfr g (List.mem_cons_of_mem _ hg))
      exact ⟨o, h1, by rw [h2, hl2]; show deps [] + _ = _; simp [deps]⟩
  obtain ⟨o, h1, h2⟩ := hfin
  rw [run_nest size _ _ o h1]
  exact ⟨rfl, h2⟩
end Go.Proofs.YthilkpjdfjjikaaDoor
