/-
  Links, plain: the grammar of a link; both ways to take it apart keep to it.
-/
import Derived.Test.YtcpkkaimingnlaaGreatDoorLkb
namespace Go.Proofs.YtcpkkaimingnlaaGreatDoor

def portT (p : Nat) : Bs := if p = 0 then [] else 58 :: decT p
def qT (l : Link) : Bs := if l.hasQ then 63 :: l.query else []
def fT (l : Link) : Bs := if l.hasF then 35 :: l.frag else []
def originL (l : Link) : Bs := l.scheme ++ [58, 47, 47] ++ l.host ++ portT l.port
def printL (l : Link) : Bs := originL l ++ l.path ++ qT l ++ fT l
/-- All of a link but its scheme. -/
structure WF (l : Link) : Prop where
  host1 : 1 ≤ l.host.length
  host2 : l.host.length ≤ 253
  hostC : ∀ c ∈ l.host, hostB c = true
  port : l.port ≤ 65535
  path : ∀ y r, l.path = y :: r → y = 47
  pathC : ∀ c ∈ l.path, c ≠ 63 ∧ c ≠ 35
  queryC : ∀ c ∈ l.query, c ≠ 35
  fragC : ∀ c ∈ l.frag, c ≠ 35
  pathR : rightL l.path = true
  queryR : rightL l.query = true
  fragR : rightL l.frag = true
  noQ : l.hasQ = false → l.query = []
  noF : l.hasF = false → l.frag = []

/-! ### Right texts -/
theorem hex2_app (a b : Bs) (hb : ∀ y r, b = y :: r → hexB y = false) : hex2 (a ++ b) = hex2 a := by
  match a with
  | [] =>
    rw [List.nil_append]
    match b with
    | [] => rfl
    | [y] => rfl
    | y :: z :: r => show (hexB y && hexB z) = false; rw [hb y _ rfl]; rfl
  | [x] =>
    match b with
    | [] => rfl
    | y :: r => show (hexB x && hexB y) = false; rw [hb y r rfl, Bool.and_false]
  | x :: y :: r => rfl
theorem rightL_cons (c : UInt8) (r : Bs) : rightL (c :: r) = (okB c && (c != 37 || hex2 r) && rightL r) := rfl
theorem right_app (b : Bs) (hb : ∀ y r, b = y :: r → hexB y = false) : ∀ a : Bs, rightL (a ++ b) = (rightL a && rightL b)
  | [] => by rw [List.nil_append]; rfl
  | x :: a => by
    rw [List.cons_append, rightL_cons, rightL_cons, hex2_app a b hb, right_app b hb a, Bool.and_assoc (okB x && (x != 37 || hex2 a))]
theorem right_cons {c : UInt8} {s : Bs} (h : okB c = true) (h2 : c ≠ 37) : rightL (c :: s) = rightL s := by
  rw [rightL_cons, h, bne_iff_ne.2 h2]; rfl
theorem right_tail (l : Link) : rightL (l.path ++ qT l ++ fT l) = (rightL l.path && (if l.hasQ then rightL l.query else true) && (if l.hasF then rightL l.frag else true)) := by
  have hf : ∀ y r, fT l = y :: r → hexB y = false := by
    intro y r h
    unfold fT at h
    split at h
    · injection h with h _; rw [← h]; decide
    · cases h
  have hq : ∀ y r, qT l = y :: r → hexB y = false := by
    intro y r h
    unfold qT at h
    split at h
    · injection h with h _; rw [← h]; decide
    · cases h
  rw [right_app _ hf, right_app _ hq]
  congr 1
  · congr 1
    unfold qT
    split
    · exact right_cons (by decide) (by decide)
    · rfl
  · unfold fT
    split
    · exact right_cons (by decide) (by decide)
    · rfl
theorem WF.right {l : Link} (h : WF l) : rightL (l.path ++ qT l ++ fT l) = true := by
  rw [right_tail, h.pathR, h.queryR, h.fragR]; simp

/-! ### What the parts are made of -/
theorem alB_iff (c : UInt8) : alB c = true ↔ (97 ≤ c.toNat ∧ c.toNat ≤ 122) ∨ (65 ≤ c.toNat ∧ c.toNat ≤ 90) ∨ (48 ≤ c.toNat ∧ c.toNat ≤ 57) := by
  unfold alB; simp only [Bool.or_eq_true, Bool.and_eq_true, decide_eq_true_eq, or_assoc]
theorem host_not {c : UInt8} (h : hostB c = true) : c ≠ 58 ∧ c ≠ 47 ∧ c ≠ 63 ∧ c ≠ 35 := by
  refine ⟨?_, ?_, ?_, ?_⟩ <;> (rintro rfl; revert h; decide)
theorem dig_not {c : UInt8} (h : digB c = true) : c ≠ 58 ∧ c ≠ 47 ∧ c ≠ 63 ∧ c ≠ 35 := by
  refine ⟨?_, ?_, ?_, ?_⟩ <;> (rintro rfl; revert h; decide)
theorem sch_not {s : Bs} (h : isHttp (small s) = true) : ∀ c ∈ s, c ≠ 58 := by
  intro c hc e
  subst e
  have h1 := isHttp_S _ h (smallB 58) (List.mem_map.2 ⟨58, hc, rfl⟩)
  revert h1; decide
theorem small_http_len {s : Bs} (h : isHttp (small s) = true) : s.length = 4 ∨ s.length = 5 := by
  unfold isHttp at h
  rw [Bool.or_eq_true, beq_iff_eq, beq_iff_eq] at h
  rcases h with h | h
  · left; rw [← small_len, h]; rfl
  · right; rw [← small_len, h]; rfl

/-! ### The end of a link -/
/-- What follows the port: path, query, fragment; none: a fragment holds a mark. -/
def tailP (t : Bs) : Bs × Bs × Bs × Bool × Bool :=
  let f := Lib.cut t [35]
  let q := Lib.cut f.1 [63]
  (q.1, q.2.1, f.2.1, q.2.2, f.2.2)
def ends (t : Bs) (p q f : Bs) (hq hf : Bool) : Prop :=
  t = p ++ (if hq then 63 :: q else []) ++ (if hf then 35 :: f else []) ∧ (∀ c ∈ p, c ≠ 63 ∧ c ≠ 35) ∧ (∀ c ∈ q, c ≠ 35) ∧ (hq = false → q = []) ∧ (hf = false → f = [])
theorem tailP_ends (t : Bs) : ends t (tailP t).1 (tailP t).2.1 (tailP t).2.2.1 (tailP t).2.2.2.1 (tailP t).2.2.2.2 := by
  unfold tailP
  dsimp only
  rw [cut1]
  dsimp only
  rw [cut1]
  dsimp only
  have a1 := tw_dw (ne 35) t
  have a2 := tw_mem (p := ne 35) t
  have a3 := dw_head (p := ne 35) t
  generalize t.takeWhile (ne 35) = u at *
  generalize t.dropWhile (ne 35) = v at *
  have b1 := tw_dw (ne 63) u
  have b2 := tw_mem (p := ne 63) u
  have b3 := dw_head (p := ne 63) u
  generalize u.takeWhile (ne 63) = x at *
  generalize u.dropWhile (ne 63) = y at *
  subst b1 a1
  refine ⟨?_, ?_, ?_, ?_, ?_⟩
  · congr 1
    · congr 1
      cases y with
      | nil => rfl
      | cons c r => rw [ne_false.1 (b3 c r rfl)]; rfl
    · cases v with
      | nil => rfl
      | cons c r => rw [ne_false.1 (a3 c r rfl)]; rfl
  · exact fun c hc => ⟨ne_true.1 (b2 c hc), ne_true.1 (a2 c (List.mem_append_left _ hc))⟩
  · exact fun c hc => ne_true.1 (a2 c (List.mem_append_right _ (List.mem_of_mem_drop hc)))
  · intro h; cases y with
    | nil => rfl
    | cons c r => cases h
  · intro h; cases v with
    | nil => rfl
    | cons c r => cases h
theorem tailP_of {t p q f : Bs} {hq hf : Bool} (h : ends t p q f hq hf) : tailP t = (p, q, f, hq, hf) := by
  obtain ⟨h1, h2, h3, h4, h5⟩ := h
  have e1 : t.takeWhile (ne 35) = p ++ (if hq then 63 :: q else []) ∧ t.dropWhile (ne 35) = (if hf then 35 :: f else []) := by
    rw [h1]
    refine tw_app ?_ ?_
    · intro x hx
      rw [ne_true]
      rcases List.mem_append.1 hx with hx | hx
      · exact (h2 x hx).2
      · cases hq with
        | false => cases hx
        | true =>
          rcases List.mem_cons.1 hx with rfl | hx
          · decide
          · exact h3 x hx
    · intro y r hy
      cases hf with
      | false => cases hy
      | true => injection hy with hy _; rw [← hy]; exact ne_false.2 rfl
  have e2 : (p ++ (if hq then 63 :: q else [])).takeWhile (ne 63) = p ∧ (p ++ (if hq then 63 :: q else [])).dropWhile (ne 63) = (if hq then 63 :: q else []) := by
    refine tw_app (fun x hx => ne_true.2 (h2 x hx).1) ?_
    intro y r hy
    cases hq with
    | false => cases hy
    | true => injection hy with hy _; rw [← hy]; exact ne_false.2 rfl
  unfold tailP
  dsimp only
  rw [cut1]
  dsimp only
  rw [cut1]
  dsimp only
  rw [e1.1, e1.2, e2.1, e2.2]
  cases hq <;> cases hf <;> simp_all
/-- Another way: up to a mark, what follows it, and so on. -/
def tailR (t : Bs) : Bs × Bs × Bs × Bool × Bool :=
  let p := t.takeWhile (out [63, 35])
  match t.dropWhile (out [63, 35]) with
  | [] => (p, [], [], false, false)
  | c :: r => if c = 63 then
      (match r.dropWhile (ne 35) with
      | [] => (p, r.takeWhile (ne 35), [], true, false)
      | _ :: f => (p, r.takeWhile (ne 35), f, true, true))
    else (p, [], r, false, true)
theorem tailR_eq (t : Bs) : tailR t = tailP t := by
  symm
  have a1 := tw_dw (out [63, 35]) t
  have a2 := tw_mem (p := out [63, 35]) t
  have a3 := dw_head (p := out [63, 35]) t
  unfold tailR
  dsimp only
  generalize t.takeWhile (out [63, 35]) = p at *
  generalize hv : t.dropWhile (out [63, 35]) = v at *
  have hp : ∀ c ∈ p, c ≠ 63 ∧ c ≠ 35 := by
    intro c hc
    have := out_true.1 (a2 c hc)
    simp only [List.mem_cons, List.not_mem_nil, or_false] at this
    exact ⟨fun h => this (.inl h), fun h => this (.inr h)⟩
  cases v with
  | nil => exact tailP_of ⟨by rw [← a1]; simp, hp, (fun _ h => by cases h), fun _ => rfl, fun _ => rfl⟩
  | cons c r =>
    have hc := out_false.1 (a3 c r rfl)
    simp only [List.mem_cons, List.not_mem_nil, or_false] at hc
    dsimp only
    by_cases h63 : c = 63
    · subst h63
      rw [if_pos rfl]
      have b1 := tw_dw (ne 35) r
      have b2 := tw_mem (p := ne 35) r
      have b3 := dw_head (p := ne 35) r
      generalize r.takeWhile (ne 35) = q at *
      generalize hw : r.dropWhile (ne 35) = w at *
      cases w with
      | nil => exact tailP_of ⟨by rw [← a1, ← b1]; simp, hp, fun x hx => ne_true.1 (b2 x hx), (fun h => by cases h), fun _ => rfl⟩
      | cons d f =>
        have hd := ne_false.1 (b3 d f rfl)
        subst hd
        exact tailP_of ⟨by rw [← a1, ← b1]; simp, hp, fun x hx => ne_true.1 (b2 x hx), (fun h => by cases h), (fun h => by cases h)⟩
    · rw [if_neg h63]
      have h35 : c = 35 := hc.resolve_left h63
      subst h35
      exact tailP_of ⟨by rw [← a1]; simp, hp, (fun _ h => by cases h), fun _ => rfl, (fun h => by cases h)⟩

/-! ### The program's way -/
def portP (s : Bs) : Nat := if s ≠ [] ∧ s.all digB = true ∧ valD s ≤ 65535 ∧ s.head? ≠ some 48 then valD s else 0
def restP (sch rest : Bs) : Option Link :=
  let h := Lib.cut (rest.take (stop [47, 63, 35] rest)) [58]
  let tail := rest.drop (stop [47, 63, 35] rest)
  if h.1.length < 1 ∨ 253 < h.1.length ∨ h.1.all hostB = false ∨ (h.2.2 = true ∧ portP h.2.1 = 0) ∨ rightL tail = false then none
  else if 0 ≤ Lib.index (tailP tail).2.2.1 [35] then none
  else some ⟨(sch), h.1, if h.2.2 = true then portP h.2.1 else 0, (tailP tail).1, (tailP tail).2.1, (tailP tail).2.2.1, (tailP tail).2.2.2.1, (tailP tail).2.2.2.2⟩
def parseP (s : Bs) : Option Link :=
  if 2048 < s.length then none
  else if (Lib.cut s [58, 47, 47]).2.2 = false ∨ isHttp (Lib.toLowerD (Lib.cut s [58, 47, 47]).1) = false then none
  else restP (Lib.cut s [58, 47, 47]).1 (Lib.cut s [58, 47, 47]).2.1
theorem index_no (c : UInt8) (s : Bs) : ¬ 0 ≤ Lib.index s [c] ↔ ∀ x ∈ s, x ≠ c := by
  have h := tw_dw (ne c) s
  have h2 := tw_mem (p := ne c) s
  have h3 := dw_head (p := ne c) s
  rw [index1]
  by_cases hd : s.dropWhile (ne c) = []
  · rw [if_pos hd]
    rw [hd, List.append_nil] at h
    refine ⟨fun _ x hx => ne_true.1 (h2 x (by rw [h]; exact hx)), fun _ => by decide⟩
  · rw [if_neg hd]
    refine ⟨fun h => by omega, fun hn => ?_⟩
    cases hv : s.dropWhile (ne c) with
    | nil => exact absurd hv hd
    | cons y r =>
      have := ne_false.1 (h3 y r hv)
      refine absurd this (hn y ?_)
      rw [← h, hv]; simp
/-- What stands behind "://", of a link. -/
def restT (l : Link) : Bs := l.host ++ portT l.port ++ (l.path ++ qT l ++ fT l)
theorem portP_of (p : Nat) (hp : p ≤ 65535) (h0 : p ≠ 0) : portP (decT p) = p := by
  obtain ⟨h1, h2, h3, h4, _⟩ := decT_spec p
  unfold portP
  rw [if_pos ⟨h3, List.all_eq_true.2 h2, by rw [h1]; exact hp, h4 (by omega)⟩, h1]
theorem portT_not (p : Nat) : ∀ x ∈ portT p, x ≠ 47 ∧ x ≠ 63 ∧ x ≠ 35 := by
  intro x hx
  unfold portT at hx
  split at hx
  · cases hx
  · rcases List.mem_cons.1 hx with rfl | hx
    · decide
    · exact (dig_not ((decT_spec p).2.1 x hx)).2
theorem tail_head (l : Link) (hp : ∀ y r, l.path = y :: r → y = 47) : ∀ y r, l.path ++ qT l ++ fT l = y :: r → y = 47 ∨ y = 63 ∨ y = 35 := by
  intro y r h
  cases hl : l.path with
  | cons c t =>
    rw [hl] at h
    injection h with h _
    rw [← h]; exact .inl (hp c t hl)
  | nil =>
    rw [hl, List.nil_append] at h
    unfold qT at h
    split at h
    · injection h with h _; rw [← h]; exact .inr (.inl rfl)
    · rw [List.nil_append] at h
      unfold fT at h
      split at h
      · injection h with h _; rw [← h]; exact .inr (.inr rfl)
      · cases h
theorem restP_iff (sch rest : Bs) (l : Link) : restP sch rest = some l ↔ (l.scheme = sch ∧ rest = restT l ∧ WF l) := by
  constructor
  · intro h
    unfold restP at h
    dsimp only at h
    rw [take_stop, drop_stop] at h
    have a1 := tw_dw (out [47, 63, 35]) rest
    have a2 := tw_mem (p := out [47, 63, 35]) rest
    have a3 := dw_head (p := out [47, 63, 35]) rest
    generalize rest.takeWhile (out [47, 63, 35]) = hp at *
    generalize rest.dropWhile (out [47, 63, 35]) = tail at *
    have b1 := tw_dw (ne 58) hp
    have b2 := tw_mem (p := ne 58) hp
    have b3 := dw_head (p := ne 58) hp
    rw [cut1] at h
    dsimp only at h
    generalize hp.takeWhile (ne 58) = name at *
    generalize hp.dropWhile (ne 58) = num at *
    split at h
    · cases h
    · rename_i hc
      split at h
      · cases h
      · rename_i hc2
        have ht := tailP_ends tail
        generalize tailP tail = T at *
        obtain ⟨p, q, f, hq, hf⟩ := T
        dsimp only at h hc2 ht
        injection h with h
        subst h
        obtain ⟨t1, t2, t3, t4, t5⟩ := ht
        rw [index_no] at hc2
        have c1 : ¬ name.length < 1 := fun h => hc (.inl h)
        have c2 : ¬ 253 < name.length := fun h => hc (.inr (.inl h))
        have c3 : name.all hostB = true := by
          cases h : name.all hostB with
          | true => rfl
          | false => exact absurd (.inr (.inr (.inl h))) hc
        have c4 : ¬ ((!num.isEmpty) = true ∧ portP (num.drop 1) = 0) := fun h => hc (.inr (.inr (.inr (.inl h))))
        have c5 : rightL tail = true := by
          cases h : rightL tail with
          | true => rfl
          | false => exact absurd (.inr (.inr (.inr (.inr h)))) hc
        have hport : (if (!num.isEmpty) = true then portP (num.drop 1) else 0) ≤ 65535 ∧ num = portT (if (!num.isEmpty) = true then portP (num.drop 1) else 0) := by
          cases num with
          | nil => exact ⟨by decide, rfl⟩
          | cons c r =>
            have := ne_false.1 (b3 c r rfl)
            subst this
            show portP r ≤ 65535 ∧ 58 :: r = portT (portP r)
            have hz : portP r ≠ 0 := fun h => c4 ⟨rfl, h⟩
            unfold portP at hz ⊢
            by_cases hr : r ≠ [] ∧ r.all digB = true ∧ valD r ≤ 65535 ∧ r.head? ≠ some 48
            · rw [if_pos hr] at hz ⊢
              obtain ⟨r1, r2, r3, r4⟩ := hr
              refine ⟨r3, ?_⟩
              unfold portT
              rw [if_neg hz, (decT_val r.length r (Nat.le_refl _) r1 (List.all_eq_true.1 r2) r4).1]
            · rw [if_neg hr] at hz; exact absurd rfl hz
        have hhead : ∀ y r, p = y :: r → y = 47 := by
          intro y r hy
          have hy2 : tail = y :: (r ++ (if hq then 63 :: q else []) ++ (if hf then 35 :: f else [])) := by rw [t1, hy]; simp
          have := out_false.1 (a3 y _ hy2)
          simp only [List.mem_cons, List.not_mem_nil, or_false] at this
          have h2 := t2 y (by rw [hy]; exact List.mem_cons_self)
          rcases this with h | h | h
          · exact h
          · exact absurd h h2.1
          · exact absurd h h2.2
        have hr2 : rightL (p ++ (if hq then 63 :: q else []) ++ (if hf then 35 :: f else [])) = true := by rw [← t1]; exact c5
        refine ⟨rfl, ?_, ?_⟩
        · unfold restT
          rw [← a1, ← b1]
          show name ++ num ++ tail = name ++ portT _ ++ (p ++ (if hq then 63 :: q else []) ++ (if hf then 35 :: f else []))
          rw [← hport.2, ← t1]
        · have hrt := right_tail ⟨sch, name, if (!num.isEmpty) = true then portP (num.drop 1) else 0, p, q, f, hq, hf⟩
          rw [show (p ++ qT ⟨sch, name, if (!num.isEmpty) = true then portP (num.drop 1) else 0, p, q, f, hq, hf⟩ ++ fT ⟨sch, name, if (!num.isEmpty) = true then portP (num.drop 1) else 0, p, q, f, hq, hf⟩) = p ++ (if hq then 63 :: q else []) ++ (if hf then 35 :: f else []) from rfl, hr2] at hrt
          have hrt := hrt.symm
          simp only [Bool.and_eq_true] at hrt
          obtain ⟨⟨g1, g2⟩, g3⟩ := hrt
          refine ⟨by show 1 ≤ name.length; omega, by show name.length ≤ 253; omega, List.all_eq_true.1 c3, hport.1, hhead, t2, t3, hc2, g1, ?_, ?_, t4, t5⟩
          · show rightL q = true
            cases hq with
            | true => exact g2
            | false => rw [t4 rfl]; rfl
          · show rightL f = true
            cases hf with
            | true => exact g3
            | false => rw [t5 rfl]; rfl
  · rintro ⟨h1, h2, hw⟩
    have c3 := hw.hostC; have c4 := hw.port; have c5 := hw.path; have c6 := hw.pathC; have c7 := hw.queryC; have c8 := hw.fragC; have c9 := hw.right; have c10 := hw.noQ; have c11 := hw.noF
    have e1 : rest.takeWhile (out [47, 63, 35]) = l.host ++ portT l.port ∧ rest.dropWhile (out [47, 63, 35]) = l.path ++ qT l ++ fT l := by
      rw [h2]
      unfold restT
      refine tw_app ?_ ?_
      · intro x hx
        rw [out_true]
        have : x ≠ 47 ∧ x ≠ 63 ∧ x ≠ 35 := by
          rcases List.mem_append.1 hx with hx | hx
          · exact (host_not (c3 x hx)).2
          · exact portT_not _ x hx
        simp only [List.mem_cons, List.not_mem_nil, or_false]
        rintro (h | h | h)
        · exact this.1 h
        · exact this.2.1 h
        · exact this.2.2 h
      · intro y r hy
        rw [out_false]
        have := tail_head l c5 y r hy
        simp only [List.mem_cons, List.not_mem_nil, or_false]
        exact this
    have e2 : (l.host ++ portT l.port).takeWhile (ne 58) = l.host ∧ (l.host ++ portT l.port).dropWhile (ne 58) = portT l.port := by
      refine tw_app (fun x hx => ne_true.2 (host_not (c3 x hx)).1) ?_
      intro y r hy
      unfold portT at hy
      split at hy
      · cases hy
      · injection hy with hy _; rw [← hy]; exact ne_false.2 rfl
    have e3 := tailP_of (t := l.path ++ qT l ++ fT l) (p := l.path) (q := l.query) (f := l.frag) (hq := l.hasQ) (hf := l.hasF) ⟨rfl, c6, c7, c10, c11⟩
    unfold restP
    dsimp only
    rw [take_stop, drop_stop, e1.1, e1.2, cut1, e2.1, e2.2, e3]
    dsimp only
    rw [if_neg, if_neg ((index_no 35 l.frag).2 c8)]
    · have hport : (if (!(portT l.port).isEmpty) = true then portP ((portT l.port).drop 1) else 0) = l.port := by
        unfold portT
        by_cases hp : l.port = 0
        · rw [if_pos hp]; exact hp.symm
        · rw [if_neg hp]; exact portP_of l.port c4 hp
      rw [hport, ← h1]
    · rintro (h | h | h | ⟨h, h'⟩ | h)
      · have := hw.host1; omega
      · have := hw.host2; omega
      · rw [List.all_eq_true.2 c3] at h; cases h
      · unfold portT at h h'
        by_cases hp : l.port = 0
        · rw [if_pos hp] at h; cases h
        · rw [if_neg hp] at h'
          exact hp ((portP_of l.port c4 hp).symm.trans h')
      · rw [c9] at h; cases h
/-! ### The whole -/
theorem cut_sch (s : Bs) (sch rest : Bs) (h : ∀ c ∈ sch, c ≠ 58) (hs : s = sch ++ 58 :: 47 :: 47 :: rest) : Lib.cut s [58, 47, 47] = (sch, rest, true) := by
  subst hs
  have hi : ∀ a : Bs, (∀ c ∈ a, c ≠ 58) → Lib.index (a ++ 58 :: 47 :: 47 :: rest) [58, 47, 47] = (a.length : Int) := by
    intro a
    induction a with
    | nil =>
      intro _
      show Lib.index (58 :: 47 :: 47 :: rest) [58, 47, 47] = 0
      unfold Lib.index
      rw [if_pos (by simp [List.isPrefixOf])]
    | cons x a ih =>
      intro ha
      have ih := ih (fun c hc => ha c (List.mem_cons_of_mem _ hc))
      have hx : (58 == x) = false := by rw [beq_eq_false_iff_ne]; exact fun e => ha x List.mem_cons_self e.symm
      rw [List.cons_append]
      unfold Lib.index
      rw [if_neg (by simp [List.isPrefixOf, hx]), ih, if_neg (by simp), List.length_cons]
      rfl
  unfold Lib.cut
  rw [hi sch h, if_pos (by omega), Int.toNat_natCast, List.take_left]
  have : (sch ++ 58 :: 47 :: 47 :: rest).drop (sch.length + ([58, 47, 47] : Bs).length) = rest := by
    rw [← List.drop_drop, List.drop_left]; rfl
  rw [this]
theorem index_occ (sub : Bs) : ∀ (s : Bs) (i : Nat), Lib.index s sub = (i : Int) → sub.isPrefixOf (s.drop i) = true
  | [], i, h => by
    unfold Lib.index at h
    cases sub with
    | nil => rfl
    | cons a r => simp at h
  | x :: l, i, h => by
    unfold Lib.index at h
    by_cases hp : sub.isPrefixOf (x :: l) = true
    · rw [if_pos hp] at h
      obtain rfl : i = 0 := by omega
      exact hp
    · rw [if_neg hp] at h
      by_cases hi : (Lib.index l sub == -1) = true
      · rw [if_pos hi] at h; omega
      · rw [if_neg hi] at h
        have hge := Lib.index_ge l sub
        have hne : Lib.index l sub ≠ -1 := by simpa using hi
        obtain ⟨i', rfl⟩ : ∃ i', i = i' + 1 := ⟨i - 1, by omega⟩
        rw [List.drop_succ_cons]
        exact index_occ sub l i' (by omega)
theorem cut_eq (s sep : Bs) (h : (Lib.cut s sep).2.2 = true) : s = (Lib.cut s sep).1 ++ sep ++ (Lib.cut s sep).2.1 := by
  unfold Lib.cut at h ⊢
  by_cases hi : 0 ≤ Lib.index s sep
  · rw [if_pos hi]
    obtain ⟨i, hi2⟩ : ∃ i : Nat, Lib.index s sep = i := ⟨(Lib.index s sep).toNat, by omega⟩
    rw [hi2]
    dsimp only
    rw [Int.toNat_natCast]
    have ho := index_occ sep s i hi2
    obtain ⟨t, ht⟩ := List.isPrefixOf_iff_prefix.1 ho
    conv => lhs; rw [← List.take_append_drop i s, ← ht]
    rw [← List.drop_drop, ← ht, List.drop_left, List.append_assoc]
  · rw [if_neg hi] at h; cases h
theorem print_eq (l : Link) : printL l = l.scheme ++ 58 :: 47 :: 47 :: restT l := by
  unfold printL originL restT
  simp
/-- A link is taken apart just where it is one, and printed as it was. -/
theorem parseP_iff (s : Bs) (l : Link) : parseP s = some l ↔ s.length ≤ 2048 ∧ printL l = s ∧ isHttp (small l.scheme) = true ∧ WF l := by
  unfold parseP
  constructor
  · intro h
    split at h
    · cases h
    · rename_i hn
      split at h
      · cases h
      · rename_i hc
        have c1 : (Lib.cut s [58, 47, 47]).2.2 = true := by
          cases h : (Lib.cut s [58, 47, 47]).2.2 with
          | true => rfl
          | false => exact absurd (.inl h) hc
        have c2 : isHttp (Lib.toLowerD (Lib.cut s [58, 47, 47]).1) = true := by
          cases h : isHttp (Lib.toLowerD (Lib.cut s [58, 47, 47]).1) with
          | true => rfl
          | false => exact absurd (.inr h) hc
        obtain ⟨h1, h2, h3⟩ := (restP_iff _ _ _).1 h
        rw [low_http] at c2
        refine ⟨by omega, ?_, by rw [h1]; exact c2, h3⟩
        rw [print_eq, h1, ← h2]
        have := cut_eq s _ c1
        conv => rhs; rw [this]
        simp
  · rintro ⟨h1, h2, h3, h4⟩
    have hc := cut_sch s l.scheme (restT l) (sch_not h3) (by rw [← h2, print_eq])
    rw [if_neg (by omega), hc]
    dsimp only
    rw [if_neg (by rw [low_http, h3]; simp)]
    exact (restP_iff _ _ _).2 ⟨rfl, rfl, h4⟩
end Go.Proofs.YtcpkkaimingnlaaGreatDoor
