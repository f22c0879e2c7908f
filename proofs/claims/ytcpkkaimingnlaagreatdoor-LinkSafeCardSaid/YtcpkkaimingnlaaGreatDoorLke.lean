/-
  Links, plain: paths without dots.
-/
import Derived.Test.YtcpkkaimingnlaaGreatDoorLkd
import Derived.Lib.SplitLaws
import Derived.Lib.Join
namespace Go.Proofs.YtcpkkaimingnlaaGreatDoor

/-- A text at every such byte. -/
def splitC (c : UInt8) : Bs → List Bs
  | [] => [[]]
  | x :: s => if x = c then [] :: splitC c s else
    match splitC c s with
    | [] => [[x]]
    | p :: r => (x :: p) :: r
def joinC (c : UInt8) : List Bs → Bs
  | [] => []
  | [p] => p
  | p :: q :: r => p ++ c :: joinC c (q :: r)
theorem splitC_ne (c : UInt8) (s : Bs) : splitC c s ≠ [] := by
  cases s with
  | nil => simp [splitC]
  | cons x s =>
    unfold splitC
    split
    · simp
    · split <;> simp
theorem joinC_cons (c : UInt8) (p : Bs) {r : List Bs} (h : r ≠ []) : joinC c (p :: r) = p ++ c :: joinC c r := by
  cases r with
  | nil => exact absurd rfl h
  | cons q r => rfl
theorem splitC_hit (c : UInt8) (s : Bs) : splitC c (c :: s) = [] :: splitC c s := by
  rw [splitC, if_pos rfl]
theorem splitC_miss {c x : UInt8} (s : Bs) (h : x ≠ c) : ∃ p r, splitC c s = p :: r ∧ splitC c (x :: s) = (x :: p) :: r := by
  obtain ⟨p, r, e⟩ : ∃ p r, splitC c s = p :: r := by
    cases hs : splitC c s with
    | nil => exact absurd hs (splitC_ne c s)
    | cons p r => exact ⟨p, r, rfl⟩
  refine ⟨p, r, e, ?_⟩
  rw [splitC, if_neg h, e]
theorem join_split (c : UInt8) : ∀ s : Bs, joinC c (splitC c s) = s
  | [] => rfl
  | x :: s => by
    have ih := join_split c s
    by_cases h : x = c
    · subst h
      rw [splitC_hit, joinC_cons x [] (splitC_ne x s), ih]; rfl
    · obtain ⟨p, r, e1, e2⟩ := splitC_miss s h
      rw [e1] at ih
      rw [e2]
      cases r with
      | nil => show x :: p = _; rw [← ih]; rfl
      | cons q r => rw [joinC_cons c (x :: p) (by simp)]; rw [joinC_cons c p (by simp)] at ih; rw [List.cons_append, ih]
theorem split_mem (c : UInt8) : ∀ (s : Bs), ∀ p ∈ splitC c s, ∀ x ∈ p, x ≠ c ∧ x ∈ s
  | [], p, hp, x, hx => by rw [splitC, List.mem_singleton] at hp; subst hp; cases hx
  | y :: s, p, hp, x, hx => by
    have ih := split_mem c s
    by_cases h : y = c
    · subst h
      rw [splitC_hit] at hp
      rcases List.mem_cons.1 hp with rfl | hp
      · cases hx
      · exact ⟨(ih p hp x hx).1, List.mem_cons_of_mem _ (ih p hp x hx).2⟩
    · obtain ⟨q, r, e1, e2⟩ := splitC_miss s h
      rw [e2] at hp
      rcases List.mem_cons.1 hp with rfl | hp
      · rcases List.mem_cons.1 hx with rfl | hx
        · exact ⟨h, List.mem_cons_self⟩
        · have := ih q (by rw [e1]; exact List.mem_cons_self) x hx
          exact ⟨this.1, List.mem_cons_of_mem _ this.2⟩
      · have := ih p (by rw [e1]; exact List.mem_cons_of_mem _ hp) x hx
        exact ⟨this.1, List.mem_cons_of_mem _ this.2⟩
theorem split_app (c : UInt8) : ∀ (p s : Bs), (∀ x ∈ p, x ≠ c) → splitC c (p ++ c :: s) = p :: splitC c s
  | [], s, _ => splitC_hit c s
  | x :: p, s, h => by
    obtain ⟨q, r, e1, e2⟩ := splitC_miss (c := c) (p ++ c :: s) (h x List.mem_cons_self)
    rw [split_app c p s (fun y hy => h y (List.mem_cons_of_mem _ hy))] at e1
    injection e1 with e3 e4
    rw [List.cons_append, e2, e3, e4]
theorem split_one (c : UInt8) : ∀ (p : Bs), (∀ x ∈ p, x ≠ c) → splitC c p = [p]
  | [], _ => rfl
  | x :: p, h => by
    obtain ⟨q, r, e1, e2⟩ := splitC_miss (c := c) p (h x List.mem_cons_self)
    rw [split_one c p (fun y hy => h y (List.mem_cons_of_mem _ hy))] at e1
    injection e1 with e3 e4
    rw [e2, ← e3, ← e4]
theorem split_join (c : UInt8) : ∀ (l : List Bs), l ≠ [] → (∀ p ∈ l, ∀ x ∈ p, x ≠ c) → splitC c (joinC c l) = l
  | [], h, _ => absurd rfl h
  | [p], _, h => split_one c p (h p List.mem_cons_self)
  | p :: q :: r, _, h => by
    rw [joinC_cons c p (by simp), split_app c p _ (h p List.mem_cons_self), split_join c (q :: r) (by simp) (fun x hx => h x (List.mem_cons_of_mem _ hx))]
theorem join_mem (c : UInt8) : ∀ (l : List Bs), ∀ x ∈ joinC c l, x = c ∨ ∃ p ∈ l, x ∈ p
  | [], x, h => by cases h
  | [p], x, h => .inr ⟨p, List.mem_cons_self, h⟩
  | p :: q :: r, x, h => by
    rw [joinC_cons c p (by simp)] at h
    rcases List.mem_append.1 h with h | h
    · exact .inr ⟨p, List.mem_cons_self, h⟩
    · rcases List.mem_cons.1 h with h | h
      · exact .inl h
      · rcases join_mem c (q :: r) x h with h | ⟨y, hy, h⟩
        · exact .inl h
        · exact .inr ⟨y, List.mem_cons_of_mem _ hy, h⟩
theorem join_len_sub (c : UInt8) : ∀ (l : List Bs), l ≠ [] → (joinC c l).length + 1 = (l.map (fun p => p.length + 1)).sum
  | [], h => absurd rfl h
  | [p], _ => by simp [joinC]
  | p :: q :: r, _ => by
    have := join_len_sub c (q :: r) (by simp)
    rw [joinC_cons c p (by simp), List.map_cons, List.sum_cons, List.length_append, List.length_cons]; omega

/-! ### Dots -/
def d1 : Bs := [46]
def d2 : Bs := [46, 46]
def dotsGo : List Bs → List Bs → List Bs
  | [], out => out
  | [x], out => if x = d2 then out.dropLast ++ [[]] else if x = d1 then out ++ [[]] else out ++ [x]
  | x :: y :: r, out => if x = d2 then dotsGo (y :: r) out.dropLast else if x = d1 then dotsGo (y :: r) out else dotsGo (y :: r) (out ++ [x])
def dotsP : Bs → Bs
  | [] => []
  | x :: r => if x = 47 then 47 :: joinC 47 (dotsGo (splitC 47 r) []) else x :: r
theorem dotsP_cons (x : UInt8) (r : Bs) : dotsP (x :: r) = if x = 47 then 47 :: joinC 47 (dotsGo (splitC 47 r) []) else x :: r := rfl
theorem dotsGo_ne : ∀ (l out : List Bs), l ≠ [] → dotsGo l out ≠ []
  | [], _, h => absurd rfl h
  | [x], out, _ => by
    unfold dotsGo
    split
    · simp
    · split <;> simp
  | x :: y :: r, out, _ => by
    unfold dotsGo
    split
    · exact dotsGo_ne (y :: r) _ (by simp)
    · split
      · exact dotsGo_ne (y :: r) _ (by simp)
      · exact dotsGo_ne (y :: r) _ (by simp)
/-- What stands in the answer: pieces that are no dots. -/
theorem dotsGo_mem : ∀ (l out : List Bs), (∀ p ∈ out, p ≠ d1 ∧ p ≠ d2) → ∀ p ∈ dotsGo l out, (p ≠ d1 ∧ p ≠ d2) ∧ (p ∈ out ∨ p ∈ l ∨ p = [])
  | [], out, h, p, hp => ⟨h p hp, .inl hp⟩
  | [x], out, h, p, hp => by
    unfold dotsGo at hp
    split at hp
    · rcases List.mem_append.1 hp with hp | hp
      · have := List.dropLast_subset _ hp
        exact ⟨h p this, .inl this⟩
      · rw [List.mem_singleton.1 hp]; exact ⟨by decide, .inr (.inr rfl)⟩
    · split at hp
      · rcases List.mem_append.1 hp with hp | hp
        · exact ⟨h p hp, .inl hp⟩
        · rw [List.mem_singleton.1 hp]; exact ⟨by decide, .inr (.inr rfl)⟩
      · rename_i h2 h1
        rcases List.mem_append.1 hp with hp | hp
        · exact ⟨h p hp, .inl hp⟩
        · rw [List.mem_singleton.1 hp]; exact ⟨⟨h1, h2⟩, .inr (.inl List.mem_cons_self)⟩
  | x :: y :: r, out, h, p, hp => by
    unfold dotsGo at hp
    split at hp
    · obtain ⟨a, b⟩ := dotsGo_mem (y :: r) out.dropLast (fun q hq => h q (List.dropLast_subset _ hq)) p hp
      refine ⟨a, ?_⟩
      rcases b with b | b | b
      · exact .inl (List.dropLast_subset _ b)
      · exact .inr (.inl (List.mem_cons_of_mem _ b))
      · exact .inr (.inr b)
    · split at hp
      · obtain ⟨a, b⟩ := dotsGo_mem (y :: r) out h p hp
        refine ⟨a, ?_⟩
        rcases b with b | b | b
        · exact .inl b
        · exact .inr (.inl (List.mem_cons_of_mem _ b))
        · exact .inr (.inr b)
      · rename_i h2 h1
        obtain ⟨a, b⟩ := dotsGo_mem (y :: r) (out ++ [x]) (fun q hq => by
          rcases List.mem_append.1 hq with hq | hq
          · exact h q hq
          · rw [List.mem_singleton.1 hq]; exact ⟨h1, h2⟩) p hp
        refine ⟨a, ?_⟩
        rcases b with b | b | b
        · rcases List.mem_append.1 b with b | b
          · exact .inl b
          · rw [List.mem_singleton.1 b]; exact .inr (.inl List.mem_cons_self)
        · exact .inr (.inl (List.mem_cons_of_mem _ b))
        · exact .inr (.inr b)
theorem dotsGo_clean : ∀ (l out : List Bs), (∀ p ∈ l, p ≠ d1 ∧ p ≠ d2) → dotsGo l out = out ++ l
  | [], out, _ => by simp [dotsGo]
  | [x], out, h => by
    have := h x List.mem_cons_self
    unfold dotsGo
    rw [if_neg this.2, if_neg this.1]
  | x :: y :: r, out, h => by
    have := h x List.mem_cons_self
    unfold dotsGo
    rw [if_neg this.2, if_neg this.1, dotsGo_clean (y :: r) _ (fun p hp => h p (List.mem_cons_of_mem _ hp)), List.append_assoc]; rfl
/-- The pieces of a path without dots. -/
theorem dotsGo_pieces (r : Bs) : ∀ p ∈ dotsGo (splitC 47 r) [], (p ≠ d1 ∧ p ≠ d2) ∧ (∀ x ∈ p, x ≠ 47 ∧ x ∈ r) := by
  intro p hp
  obtain ⟨a, b⟩ := dotsGo_mem _ [] (fun _ h => by cases h) p hp
  refine ⟨a, fun x hx => ?_⟩
  rcases b with b | b | b
  · cases b
  · exact split_mem 47 r p b x hx
  · rw [b] at hx; cases hx
theorem dots_idem (p : Bs) : dotsP (dotsP p) = dotsP p := by
  cases p with
  | nil => rfl
  | cons x r =>
    rw [dotsP_cons]
    by_cases h : x = 47
    · rw [if_pos h, dotsP_cons, if_pos rfl, split_join 47 _ (dotsGo_ne _ _ (splitC_ne 47 r)) (fun p hp y hy => ((dotsGo_pieces r p hp).2 y hy).1), dotsGo_clean _ [] (fun p hp => (dotsGo_pieces r p hp).1)]
      rfl
    · rw [if_neg h, dotsP_cons, if_neg h]
/-- The document's. -/
def dotsGoR : List Bs → List Bs → Bool → List Bs × Bool
  | [], out, sl => (out, sl)
  | x :: r, out, _ =>
    dotsGoR r (if x = d1 ∨ x = d2 then (if x = d2 then out.dropLast else out) else out ++ [x]) (decide (x = d1 ∨ x = d2))
def dotsR : Bs → Bs
  | [] => []
  | x :: r => if x = 47 then
      (let o := dotsGoR (splitC 47 r) [] false
       let l := if o.2 = true then o.1 ++ [[]] else o.1
       let s := l.flatMap (fun p => 47 :: p)
       if s = [] then [47] else s)
    else x :: r
theorem dotsR_cons (x : UInt8) (r : Bs) : dotsR (x :: r) = if x = 47 then
      (let o := dotsGoR (splitC 47 r) [] false
       let l := if o.2 = true then o.1 ++ [[]] else o.1
       let s := l.flatMap (fun p => 47 :: p)
       if s = [] then [47] else s)
    else x :: r := rfl
theorem dotsGoR_eq : ∀ (l out : List Bs) (sl : Bool), l ≠ [] → (if (dotsGoR l out sl).2 = true then (dotsGoR l out sl).1 ++ [[]] else (dotsGoR l out sl).1) = dotsGo l out
  | [], _, _, h => absurd rfl h
  | [x], out, sl, _ => by
    unfold dotsGoR dotsGo
    dsimp only [dotsGoR]
    by_cases h2 : x = d2
    · have hn : x = d1 ∨ x = d2 := .inr h2
      rw [if_pos hn, if_pos h2, if_pos h2, decide_eq_true hn]; rfl
    · by_cases h1 : x = d1
      · have hn : x = d1 ∨ x = d2 := .inl h1
        rw [if_pos hn, if_neg h2, if_neg h2, if_pos h1, decide_eq_true hn]; rfl
      · have hn : ¬ (x = d1 ∨ x = d2) := by rintro (h | h); exact h1 h; exact h2 h
        rw [if_neg hn, if_neg h2, if_neg h1, decide_eq_false hn]; rfl
  | x :: y :: r, out, sl, _ => by
    have ih := fun out sl => dotsGoR_eq (y :: r) out sl (by simp)
    rw [dotsGoR, dotsGo]
    by_cases h2 : x = d2
    · have hn : x = d1 ∨ x = d2 := .inr h2
      rw [if_pos hn, if_pos h2, if_pos h2, ih]
    · by_cases h1 : x = d1
      · have hn : x = d1 ∨ x = d2 := .inl h1
        rw [if_pos hn, if_neg h2, if_neg h2, if_pos h1, ih]
      · have hn : ¬ (x = d1 ∨ x = d2) := by rintro (h | h); exact h1 h; exact h2 h
        rw [if_neg hn, if_neg h2, if_neg h1, ih]
theorem flat_join (c : UInt8) : ∀ (l : List Bs), l ≠ [] → l.flatMap (fun p => c :: p) = c :: joinC c l
  | [], h => absurd rfl h
  | [p], _ => by simp [joinC]
  | p :: q :: r, _ => by
    rw [List.flatMap_cons, flat_join c (q :: r) (by simp), joinC_cons c p (by simp)]; simp
theorem dotsR_eq (p : Bs) : dotsR p = dotsP p := by
  cases p with
  | nil => rfl
  | cons x r =>
    rw [dotsR_cons, dotsP_cons]
    by_cases h : x = 47
    · rw [if_pos h, if_pos h]
      dsimp only
      rw [dotsGoR_eq _ _ _ (splitC_ne 47 r), flat_join 47 _ (dotsGo_ne _ _ (splitC_ne 47 r)), if_neg (by simp)]
    · rw [if_neg h, if_neg h]
/-- Go's own Split and Join. -/
theorem split_lib (c : UInt8) : ∀ s : Bs, Lib.split s [c] = splitC c s := by
  have key : ∀ (k : Nat) (s : Bs), s.count c = k → Lib.splitK [c] 0 k s = splitC c s := by
    intro k
    induction k with
    | zero =>
      intro s hs
      have : ∀ x ∈ s, x ≠ c := fun x hx e => by subst e; exact absurd (List.count_pos_iff.2 hx) (by omega)
      rw [split_one c s this]; rfl
    | succ k ih =>
      intro s hs
      have h1 := tw_dw (ne c) s
      have h2 := tw_mem (p := ne c) s
      have h3 := dw_head (p := ne c) s
      unfold Lib.splitK
      rw [index1]
      cases hd : s.dropWhile (ne c) with
      | nil =>
        exfalso
        rw [hd, List.append_nil] at h1
        have : s.count c = 0 := by
          rw [List.count_eq_zero]
          intro hm
          exact absurd rfl (ne_true.1 (h2 c (by rw [h1]; exact hm)))
        omega
      | cons y r =>
        have hy := ne_false.1 (h3 y r hd)
        subst hy
        rw [if_neg (by simp), if_neg (by simp), Int.toNat_natCast, Nat.add_zero, take_tw, ← List.drop_drop, drop_tw, hd]
        have hs2 : s = s.takeWhile (ne y) ++ y :: r := by rw [← hd, h1]
        have hc0 : (s.takeWhile (ne y)).count y = 0 := by
          rw [List.count_eq_zero]
          intro hm
          exact absurd rfl (ne_true.1 (h2 y hm))
        have hr : r.count y = k := by
          rw [hs2, List.count_append, hc0, List.count_cons_self] at hs; omega
        conv => rhs; rw [hs2]
        rw [split_app y _ r (fun x hx => ne_true.1 (h2 x hx))]
        show _ :: Lib.splitK [y] 0 k r = _
        rw [ih r hr]
  intro s
  unfold Lib.split
  rw [Lib.count_one]
  exact key _ s rfl
theorem join_lib (c : UInt8) : ∀ l : List Bs, Lib.join l [c] = joinC c l
  | [] => rfl
  | [p] => Lib.join_one p [c]
  | p :: q :: r => by
    have ih := join_lib c (q :: r)
    rw [joinC_cons c p (by simp), Lib.join_cons]
    rw [Lib.join_cons] at ih
    rw [← ih]
    simp [Lib.joinTail]
end Go.Proofs.YtcpkkaimingnlaaGreatDoor
