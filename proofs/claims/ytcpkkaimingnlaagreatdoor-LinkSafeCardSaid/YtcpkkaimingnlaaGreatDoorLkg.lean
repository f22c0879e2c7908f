/-
  Links, plain: the one form of a link; what a text is by a link.
-/
import Derived.Test.YtcpkkaimingnlaaGreatDoorLkf
namespace Go.Proofs.YtcpkkaimingnlaaGreatDoor

theorem dots_head (p : Bs) (h : ∀ y r, p = y :: r → y = 47) : ∀ y r, dotsP p = y :: r → y = 47 := by
  intro y r hy
  cases p with
  | nil => cases hy
  | cons x s =>
    have hx := h x s rfl
    rw [dotsP_cons, if_pos hx] at hy
    injection hy with hy _
    exact hy.symm
theorem dots_mem (p : Bs) : ∀ x ∈ dotsP p, x ∈ p := by
  intro x hx
  cases p with
  | nil => cases hx
  | cons y r =>
    rw [dotsP_cons] at hx
    by_cases h : y = 47
    · rw [if_pos h] at hx
      rcases List.mem_cons.1 hx with rfl | hx
      · rw [h]; exact List.mem_cons_self
      · rcases join_mem 47 _ x hx with rfl | ⟨q, hq, hx⟩
        · rw [h]; exact List.mem_cons_self
        · exact List.mem_cons_of_mem _ ((dotsGo_pieces r q hq).2 x hx).2
    · rw [if_neg h] at hx; exact hx
/-- A path that is right, in its one form: so it is without its dots. -/
theorem split_right (r : Bs) (h : rightL r = true) : ∀ p ∈ splitC 47 r, rightL p = true := by
  have := (right_join 47 (by decide) (by decide) (by decide) (splitC 47 r)).1 (by rw [join_split]; exact h)
  exact this
theorem dots_right (p : Bs) (h : rightL p = true) : rightL (dotsP p) = true := by
  cases p with
  | nil => rfl
  | cons y r =>
    rw [dotsP_cons]
    by_cases hy : y = 47
    · rw [if_pos hy, right_cons (by decide) (by decide), right_join 47 (by decide) (by decide) (by decide)]
      intro q hq
      obtain ⟨_, b⟩ := dotsGo_mem _ [] (fun _ h => by cases h) q hq
      rcases b with b | b | b
      · cases b
      · exact split_right r (right_tail2 h).2.2 q b
      · rw [b]; rfl
    · rw [if_neg hy]; exact h
theorem dots_norm (p : Bs) (h : isNorm p = true) : isNorm (dotsP p) = true := by
  cases p with
  | nil => rfl
  | cons y r =>
    rw [dotsP_cons]
    by_cases hy : y = 47
    · rw [if_pos hy, isNorm_cons, isNorm_join 47 (by decide) (by decide) _ |>.2]
      · rfl
      · intro q hq
        obtain ⟨_, b⟩ := dotsGo_mem _ [] (fun _ h => by cases h) q hq
        rcases b with b | b | b
        · cases b
        · have hr : isNorm r = true := by rw [isNorm_cons, Bool.and_eq_true] at h; exact h.2
          exact (isNorm_join 47 (by decide) (by decide) (splitC 47 r)).1 (by rw [join_split]; exact hr) q b
        · rw [b]; rfl
    · rw [if_neg hy]; exact h
theorem sum_le_of {f : Bs → Nat} : ∀ (l m : List Bs), l.Sublist m → (l.map f).sum ≤ (m.map f).sum
  | _, _, .slnil => Nat.le_refl _
  | _, _, .cons a h => by rw [List.map_cons, List.sum_cons]; have := sum_le_of (f := f) _ _ h; omega
  | _, _, .cons_cons a h => by rw [List.map_cons, List.map_cons, List.sum_cons, List.sum_cons]; have := sum_le_of (f := f) _ _ h; omega
/-- It gets no longer. -/
theorem dotsGo_len : ∀ (l out : List Bs), l ≠ [] → ((dotsGo l out).map (fun p => p.length + 1)).sum ≤ (out.map (fun p => p.length + 1)).sum + (l.map (fun p => p.length + 1)).sum
  | [], _, h => absurd rfl h
  | [x], out, _ => by
    have hd := sum_le_of (f := fun p => p.length + 1) _ _ (List.dropLast_sublist out)
    unfold dotsGo
    split
    · rename_i h; rw [h]; simp only [List.map_append, List.sum_append, List.map_cons, List.map_nil, List.sum_cons, List.sum_nil]; simp [d2] at *; omega
    · split
      · rename_i h; rw [h]; simp only [List.map_append, List.sum_append, List.map_cons, List.map_nil, List.sum_cons, List.sum_nil]; simp [d1]
      · simp
  | x :: y :: r, out, _ => by
    have hd := sum_le_of (f := fun p => p.length + 1) _ _ (List.dropLast_sublist out)
    have ih := fun o => dotsGo_len (y :: r) o (by simp)
    unfold dotsGo
    rw [List.map_cons, List.sum_cons]
    split
    · have := ih out.dropLast; omega
    · split
      · have := ih out; omega
      · have := ih (out ++ [x]); rw [List.map_append, List.sum_append, List.map_cons, List.map_nil, List.sum_cons, List.sum_nil] at this; omega
theorem dots_len (p : Bs) : (dotsP p).length ≤ p.length := by
  cases p with
  | nil => exact Nat.le_refl _
  | cons y r =>
    rw [dotsP_cons]
    by_cases hy : y = 47
    · rw [if_pos hy, List.length_cons, List.length_cons]
      have h1 := dotsGo_len (splitC 47 r) [] (splitC_ne 47 r)
      have h2 := join_len_sub 47 _ (dotsGo_ne (splitC 47 r) [] (splitC_ne 47 r))
      have h3 := join_len_sub 47 _ (splitC_ne 47 r)
      rw [join_split] at h3
      rw [List.map_nil, List.sum_nil] at h1
      omega
    · rw [if_neg hy]; exact Nat.le_refl _

/-! ### Canon -/
def bUtm : Bs := [117, 116, 109, 95]
def keptP (q : Bs) : List Bs := (splitC 38 (normP q)).filter (fun p => !Lib.hasPrefix p bUtm)
def queryP (q : Bs) : Bs := joinC 38 (keptP q)
def canonP (l : Link) : Link :=
  let sch := Lib.toLowerD l.scheme
  let hasQ := l.hasQ && !(queryP l.query).isEmpty
  ⟨sch, Lib.toLowerD l.host, if (sch = bHttp ∧ l.port = 80) ∨ (sch = bHttps ∧ l.port = 443) then 0 else l.port,
    if dotsP (normP l.path) = [] then [47] else dotsP (normP l.path), if hasQ = true then queryP l.query else [], [], hasQ, false⟩
theorem query_idem (q : Bs) (h : rightL q = true) : queryP (queryP q) = queryP q ∧ rightL (queryP q) = true ∧ ∀ x ∈ queryP q, x = 38 ∨ x ∈ normP q := by
  obtain ⟨n1, n2, _⟩ := norm_all q h
  have p1 := (isNorm_join 38 (by decide) (by decide) (splitC 38 (normP q))).1 (by rw [join_split]; exact n1)
  have p2 := (right_join 38 (by decide) (by decide) (by decide) (splitC 38 (normP q))).1 (by rw [join_split]; exact n2)
  have hk : ∀ p ∈ keptP q, p ∈ splitC 38 (normP q) ∧ Lib.hasPrefix p bUtm = false := by
    intro p hp
    have := List.mem_filter.1 hp
    exact ⟨this.1, by simpa using this.2⟩
  have r1 : isNorm (queryP q) = true := (isNorm_join 38 (by decide) (by decide) _).2 (fun p hp => p1 p (hk p hp).1)
  refine ⟨?_, (right_join 38 (by decide) (by decide) (by decide) _).2 (fun p hp => p2 p (hk p hp).1), ?_⟩
  · unfold queryP keptP
    rw [show normP (joinC 38 ((splitC 38 (normP q)).filter (fun p => !Lib.hasPrefix p bUtm))) = joinC 38 (keptP q) from norm_self _ r1]
    by_cases hne : keptP q = []
    · have e : joinC 38 ((splitC 38 (normP q)).filter (fun p => !Lib.hasPrefix p bUtm)) = [] := by
        have := hne
        unfold keptP at this
        rw [this]; rfl
      rw [e, hne]; rfl
    · rw [split_join 38 _ hne (fun p hp x hx => (split_mem 38 _ p (hk p hp).1 x hx).1)]
      rw [List.filter_eq_self.2 (fun p hp => by rw [(hk p hp).2]; rfl)]
      rfl
  · intro x hx
    rcases join_mem 38 _ x hx with h | ⟨p, hp, hx⟩
    · exact .inl h
    · exact .inr (split_mem 38 _ p (hk p hp).1 x hx).2
theorem smallB_idem (c : UInt8) : smallB (smallB c) = smallB c := by
  have h : ∀ c : UInt8, (smallB c).toNat = if 65 ≤ c.toNat ∧ c.toNat ≤ 90 then c.toNat + 32 else c.toNat := by
    intro c
    have := c.toNat_lt
    unfold smallB
    by_cases h : 65 ≤ c.toNat ∧ c.toNat ≤ 90
    · rw [if_pos (by simpa using h), if_pos h, UInt8.toNat_add]
      show (c.toNat + 32) % 256 = _
      omega
    · rw [if_neg (by simpa using h), if_neg h]
  rw [← UInt8.toNat_inj, h (smallB c), h c]
  split <;> (try split) <;> omega
theorem small_idem (s : Bs) : small (small s) = small s := by
  unfold small
  rw [List.map_map]
  exact List.map_congr_left fun c _ => smallB_idem c
theorem small_ascii (s : Bs) (h : ∀ b ∈ s, b.toNat < 128) : ∀ b ∈ small s, b.toNat < 128 := by
  intro b hb
  obtain ⟨c, hc, rfl⟩ := List.mem_map.1 hb
  rw [smallB_ascii]; exact h c hc
theorem host_ascii {c : UInt8} (h : hostB c = true) : c.toNat < 128 := by
  unfold hostB at h
  rw [Bool.or_eq_true, Bool.or_eq_true, alB_iff, beq_iff_eq, beq_iff_eq] at h
  rcases h with (h | rfl) | rfl
  · omega
  · decide
  · decide
theorem host_small {c : UInt8} (h : hostB c = true) : hostB (smallB c) = true := by
  unfold smallB
  split
  · rename_i h2
    simp only [Bool.and_eq_true, decide_eq_true_eq] at h2
    unfold hostB
    rw [Bool.or_eq_true, Bool.or_eq_true, alB_iff, UInt8.toNat_add]
    left; left; left
    show 97 ≤ (c.toNat + 32) % 256 ∧ (c.toNat + 32) % 256 ≤ 122
    omega
  · exact h
theorem sch_ascii {s : Bs} (h : isHttp (small s) = true) : ∀ b ∈ s, b.toNat < 128 := by
  intro b hb
  have := isHttp_S _ h (smallB b) (List.mem_map.2 ⟨b, hb, rfl⟩)
  rw [← smallB_ascii]
  unfold lowS at this
  simp only [List.mem_cons, List.not_mem_nil, or_false] at this
  omega
/-- The one form of a link is a link's, and its own one form. -/
theorem canon_ok (l : Link) (hs : isHttp (small l.scheme) = true) (h : WF l) : isHttp (small (canonP l).scheme) = true ∧ WF (canonP l) ∧ canonP (canonP l) = canonP l := by
  have e1 : Lib.toLowerD l.scheme = small l.scheme := low_ascii _ (sch_ascii hs)
  have e2 : Lib.toLowerD l.host = small l.host := low_ascii _ (fun b hb => host_ascii (h.hostC b hb))
  have e3 : Lib.toLowerD (small l.scheme) = small l.scheme := by rw [low_ascii _ (small_ascii _ (sch_ascii hs)), small_idem]
  have e4 : Lib.toLowerD (small l.host) = small l.host := by rw [low_ascii _ (small_ascii _ (fun b hb => host_ascii (h.hostC b hb))), small_idem]
  obtain ⟨p1, p2, p3⟩ := norm_all l.path h.pathR
  obtain ⟨q1, q2, q3⟩ := query_idem l.query h.queryR
  obtain ⟨_, _, n3⟩ := norm_all l.query h.queryR
  have hph : ∀ y r, normP l.path = y :: r → y = 47 := by
    intro y r hy
    cases hl : l.path with
    | nil => rw [hl] at hy; cases hy
    | cons x s =>
      have hx := h.path x s hl
      rw [hl, normP_miss x s (by rw [hx]; rintro ⟨h, _⟩; exact absurd h (by decide))] at hy
      injection hy with hy _
      rw [← hy]; exact hx
  -- the path
  have hp1 : ∀ y r, (canonP l).path = y :: r → y = 47 := by
    intro y r hy
    have hy : (if dotsP (normP l.path) = [] then [47] else dotsP (normP l.path)) = y :: r := hy
    split at hy
    · injection hy with hy _; exact hy.symm
    · exact dots_head _ hph y r hy
  have hp2 : rightL (canonP l).path = true := by
    show rightL (if dotsP (normP l.path) = [] then [47] else dotsP (normP l.path)) = true
    split
    · decide
    · exact dots_right _ p2
  have hp3 : isNorm (canonP l).path = true := by
    show isNorm (if dotsP (normP l.path) = [] then [47] else dotsP (normP l.path)) = true
    split
    · decide
    · exact dots_norm _ p1
  have hp4 : dotsP (canonP l).path = (canonP l).path ∧ (canonP l).path ≠ [] := by
    show dotsP (if dotsP (normP l.path) = [] then [47] else dotsP (normP l.path)) = (if dotsP (normP l.path) = [] then [47] else dotsP (normP l.path)) ∧ (if dotsP (normP l.path) = [] then [47] else dotsP (normP l.path)) ≠ []
    split
    · exact ⟨by decide, by decide⟩
    · rename_i hn; exact ⟨dots_idem _, hn⟩
  have hp5 : ∀ c ∈ (canonP l).path, c ≠ 63 ∧ c ≠ 35 := by
    intro c hc
    have hc : c ∈ (if dotsP (normP l.path) = [] then [47] else dotsP (normP l.path)) := hc
    split at hc
    · rw [List.mem_singleton.1 hc]; decide
    · rcases p3 c (dots_mem _ c hc) with h1 | rfl | h1
      · exact h.pathC c h1
      · decide
      · have := unres_not h1; exact ⟨this.2.2.1, this.2.2.2.1⟩
  have hq5 : ∀ c ∈ queryP l.query, c ≠ 35 := by
    intro c hc
    rcases q3 c hc with rfl | hc
    · decide
    · rcases n3 c hc with h1 | rfl | h1
      · exact h.queryC c h1
      · decide
      · exact (unres_not h1).2.2.2.1
  have hport : (canonP l).port ≤ 65535 := by
    show (if (Lib.toLowerD l.scheme = bHttp ∧ l.port = 80) ∨ (Lib.toLowerD l.scheme = bHttps ∧ l.port = 443) then 0 else l.port) ≤ 65535
    split
    · omega
    · exact h.port
  have hsch : isHttp (small (canonP l).scheme) = true := by
    show isHttp (small (Lib.toLowerD l.scheme)) = true
    rw [e1, small_idem]; exact hs
  have hQ : (canonP l).hasQ = (l.hasQ && !(queryP l.query).isEmpty) := rfl
  have hqv : (canonP l).query = if (l.hasQ && !(queryP l.query).isEmpty) = true then queryP l.query else [] := rfl
  refine ⟨hsch, ⟨?_, ?_, ?_, hport, hp1, hp5, ?_, (fun c hc => by cases hc), hp2, ?_, rfl, ?_, fun _ => rfl⟩, ?_⟩
  · show 1 ≤ (Lib.toLowerD l.host).length; rw [e2, small_len]; exact h.host1
  · show (Lib.toLowerD l.host).length ≤ 253; rw [e2, small_len]; exact h.host2
  · intro c hc
    have hc : c ∈ Lib.toLowerD l.host := hc
    rw [e2] at hc
    obtain ⟨d, hd, rfl⟩ := List.mem_map.1 hc
    exact host_small (h.hostC d hd)
  · intro c hc
    rw [hqv] at hc
    split at hc
    · exact hq5 c hc
    · cases hc
  · rw [hqv]
    split
    · exact q2
    · rfl
  · intro hf
    rw [hQ] at hf
    rw [hqv, hf]; rfl
  · have r1 : queryP (canonP l).query = (canonP l).query := by
      rw [hqv]
      split
      · exact q1
      · rfl
    have r2 : (canonP l).hasQ = true → (canonP l).query ≠ [] := by
      intro ht
      rw [hQ] at ht
      rw [hqv, if_pos ht]
      rw [Bool.and_eq_true] at ht
      intro he
      rw [he] at ht
      exact absurd ht.2 (by decide)
    have r3 : (canonP l).hasQ = false → (canonP l).query = [] := by
      intro hf
      rw [hQ] at hf
      rw [hqv, hf]; rfl
    have t1 : Lib.toLowerD (canonP l).scheme = (canonP l).scheme := by
      show Lib.toLowerD (Lib.toLowerD l.scheme) = Lib.toLowerD l.scheme
      rw [e1, e3]
    have t2 : Lib.toLowerD (canonP l).host = (canonP l).host := by
      show Lib.toLowerD (Lib.toLowerD l.host) = Lib.toLowerD l.host
      rw [e2, e4]
    have t3 : (if ((canonP l).scheme = bHttp ∧ (canonP l).port = 80) ∨ ((canonP l).scheme = bHttps ∧ (canonP l).port = 443) then 0 else (canonP l).port) = (canonP l).port := by
      show (if (Lib.toLowerD l.scheme = bHttp ∧ (if (Lib.toLowerD l.scheme = bHttp ∧ l.port = 80) ∨ (Lib.toLowerD l.scheme = bHttps ∧ l.port = 443) then 0 else l.port) = 80) ∨ (Lib.toLowerD l.scheme = bHttps ∧ (if (Lib.toLowerD l.scheme = bHttp ∧ l.port = 80) ∨ (Lib.toLowerD l.scheme = bHttps ∧ l.port = 443) then 0 else l.port) = 443) then 0 else (if (Lib.toLowerD l.scheme = bHttp ∧ l.port = 80) ∨ (Lib.toLowerD l.scheme = bHttps ∧ l.port = 443) then 0 else l.port)) = _
      by_cases hc : (Lib.toLowerD l.scheme = bHttp ∧ l.port = 80) ∨ (Lib.toLowerD l.scheme = bHttps ∧ l.port = 443)
      · rw [if_pos hc]; split <;> simp_all [canonP]
      · rw [if_neg hc, if_neg hc]; unfold canonP; dsimp only; rw [if_neg hc]
    have HF : (canonP l).hasF = false := rfl
    have HFR : (canonP l).frag = [] := rfl
    generalize hc : canonP l = c at *
    clear hc
    unfold canonP
    dsimp only
    rw [t1, t2, t3, r1, norm_self _ hp3, hp4.1, if_neg hp4.2]
    have hF : c.hasF = false := HF
    have hFr : c.frag = [] := HFR
    obtain ⟨sch, host, port, path, query, frag, hasQ, hasF⟩ := c
    dsimp only at r2 r3 hF hFr ⊢
    subst hF hFr
    cases hasQ with
    | true =>
      have := r2 rfl
      cases query with
      | nil => exact absurd rfl this
      | cons y r => rfl
    | false => rw [r3 rfl]; rfl
end Go.Proofs.YtcpkkaimingnlaaGreatDoor
