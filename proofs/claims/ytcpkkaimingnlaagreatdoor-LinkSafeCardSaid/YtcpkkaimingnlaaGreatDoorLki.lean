/-
  Links, plain: the document's percents, one form and resolving; mail links.
-/
import Derived.Test.YtcpkkaimingnlaaGreatDoorLkh
namespace Go.Proofs.YtcpkkaimingnlaaGreatDoor

/-! ### Percents -/
def hxT : Bs := [48, 49, 50, 51, 52, 53, 54, 55, 56, 57, 65, 66, 67, 68, 69, 70]
def pctR (c : UInt8) : Bs := if unresB c then [c] else [37, hxT.getD (c.toNat / 16) 0, hxT.getD (c.toNat % 16) 0]
theorem hx_all : ∀ i : Fin 256, hexB (UInt8.ofNat i.val) = true → hxT.getD (hexV (UInt8.ofNat i.val)) 0 = upB (UInt8.ofNat i.val) := by decide +kernel
theorem hx_up {c : UInt8} (h : hexB c = true) : hxT.getD (hexV c) 0 = upB c := by
  have := hx_all ⟨c.toNat, c.toNat_lt⟩
  have e : UInt8.ofNat (Fin.val (⟨c.toNat, c.toNat_lt⟩ : Fin 256)) = c := by simp
  rw [e] at this
  exact this h
theorem hexV_16 {c : UInt8} (h : hexB c = true) : hexV c < 16 := by
  rw [hexB_iff] at h
  unfold hexV
  (repeat' split) <;> omega
theorem pct_doc {a b : UInt8} (ha : hexB a = true) (hb : hexB b = true) : pctR (pctN a b) = pctT a b := by
  have h1 := hexV_16 ha
  have h2 := hexV_16 hb
  unfold pctR pctT
  rw [pct_nat ha hb, show (16 * hexV a + hexV b) / 16 = hexV a by omega, show (16 * hexV a + hexV b) % 16 = hexV b by omega, hx_up ha, hx_up hb]

/-! ### One form -/
def canonR (l : Link) : Link :=
  let sch := small l.scheme
  ⟨sch, small l.host, if (sch = bHttp ∧ l.port = 80) ∨ (sch = bHttps ∧ l.port = 443) then 0 else l.port,
    if dotsP (normP l.path) = [] then [47] else dotsP (normP l.path), queryP l.query, [], !(queryP l.query).isEmpty, false⟩
theorem canonR_eq (l : Link) (hs : isHttp (small l.scheme) = true) (h : WF l) : canonR l = canonP l := by
  have e1 : Lib.toLowerD l.scheme = small l.scheme := low_ascii _ (sch_ascii hs)
  have e2 : Lib.toLowerD l.host = small l.host := low_ascii _ (fun b hb => host_ascii (h.hostC b hb))
  unfold canonR canonP
  dsimp only
  rw [e1, e2]
  cases hq : l.hasQ with
  | false =>
    have e3 := h.noQ hq
    have e4 : queryP l.query = [] := by rw [e3]; rfl
    rw [e4]; rfl
  | true =>
    rw [Bool.true_and]
    cases hqq : queryP l.query with
    | nil => rfl
    | cons x r => rfl

/-! ### Resolving -/
theorem upTo_pre : ∀ p : Bs, ∃ r, p = upTo p ++ r ∧ 47 ∉ r
  | [] => ⟨[], rfl, by simp⟩
  | c :: t => by
    obtain ⟨r, h1, h2⟩ := upTo_pre t
    rw [upTo_cons]
    by_cases h : c = 47 ∨ upTo t ≠ []
    · rw [if_pos h]
      exact ⟨r, by rw [List.cons_append, ← h1], h2⟩
    · rw [if_neg h]
      have hc : c ≠ 47 := fun e => h (.inl e)
      have ht : upTo t = [] := Classical.byContradiction fun e => h (.inr e)
      rw [ht, List.nil_append] at h1
      subst h1
      refine ⟨c :: t, rfl, ?_⟩
      intro hm
      rcases List.mem_cons.1 hm with e | e
      · exact hc e.symm
      · exact h2 e
theorem upTo_len (p : Bs) : (upTo p).length ≤ p.length := by
  obtain ⟨r, h1, _⟩ := upTo_pre p
  have := congrArg List.length h1
  rw [List.length_append] at this
  omega
theorem upTo_take (p : Bs) : p.take (upTo p).length = upTo p := by
  obtain ⟨r, h1, _⟩ := upTo_pre p
  have : (upTo p ++ r).take (upTo p).length = upTo p := List.take_left' rfl
  rw [← h1] at this
  exact this
theorem upTo_last : ∀ p : Bs, upTo p ≠ [] → ∃ q, upTo p = q ++ [47]
  | [], h => absurd rfl h
  | c :: t, h => by
    rw [upTo_cons] at h ⊢
    by_cases hc : c = 47 ∨ upTo t ≠ []
    · rw [if_pos hc]
      by_cases ht : upTo t = []
      · rcases hc with rfl | hc
        · exact ⟨[], by rw [ht]; rfl⟩
        · exact absurd ht hc
      · obtain ⟨q, hq⟩ := upTo_last t ht
        exact ⟨c :: q, by rw [hq]; rfl⟩
    · rw [if_neg hc] at h
      exact absurd rfl h
/-- One byte more, from the left: where the last slash ends. -/
theorem upTo_snoc (p : Bs) (c : UInt8) : upTo (p ++ [c]) = if c = 47 then p ++ [c] else upTo p := by
  induction p with
  | nil =>
    rw [List.nil_append, upTo_cons]
    by_cases h : c = 47
    · rw [if_pos (.inl h), if_pos h]; rfl
    · rw [if_neg h, if_neg]
      · rfl
      · rintro (e | e)
        · exact h e
        · exact e rfl
  | cons x p ih =>
    rw [List.cons_append, upTo_cons, ih]
    by_cases h : c = 47
    · rw [if_pos h, if_pos h, if_pos (.inr (by simp))]
    · rw [if_neg h, if_neg h, upTo_cons]
theorem print_bareF (b : Link) : printL (bareF b) = originL b ++ b.path ++ qT b := by
  unfold printL bareF fT qT originL
  simp
theorem print_bareQ (b : Link) : printL (bareQ b) = originL b ++ b.path := by
  unfold printL bareQ fT qT originL
  simp
theorem print_base (b : Link) : printL (baseP b) = originL b ++ (if upTo b.path = [] then [47] else upTo b.path) := by
  unfold printL baseP bareQ fT qT originL
  simp
def absR (s : Bs) : Bool := decide (0 < stop [58, 47, 63, 35] s) && decide (stop [58, 47, 63, 35] s < s.length) && (s.getD (stop [58, 47, 63, 35] s) 0 == 58) && (alB (s.getD 0 0) && (decide ((s.getD 0 0).toNat < 48) || decide (57 < (s.getD 0 0).toNat)))
theorem absR_eq (s : Bs) : absR s = absP s := by
  unfold absR absP
  have hd := drop_stop [58, 47, 63, 35] s
  have hl : stop [58, 47, 63, 35] s ≤ s.length := by unfold stop; exact (List.takeWhile_sublist _).length_le
  generalize stop [58, 47, 63, 35] s = n at *
  generalize s.dropWhile (out [58, 47, 63, 35]) = D at *
  match s, D with
  | [], _ =>
    rw [List.length_nil] at hl
    rw [decide_eq_false (show ¬ 0 < n by omega)]; rfl
  | c :: r, [] =>
    have := congrArg List.length hd
    rw [List.length_drop, List.length_nil] at this
    rw [decide_eq_false (show ¬ n < (c :: r).length by omega), Bool.and_false]; rfl
  | c :: r, d :: t =>
    have hn : n < (c :: r).length := by
      have := congrArg List.length hd
      rw [List.length_drop] at this
      have h1 : (d :: t).length = t.length + 1 := rfl
      omega
    have hg : (c :: r).getD n 0 = d := by
      rw [List.drop_eq_getElem_cons hn] at hd
      injection hd with hd _
      rw [← hd, List.getD_eq_getElem?_getD, List.getElem?_eq_getElem hn]; rfl
    rw [hg, decide_eq_true hn, Bool.and_true]
    dsimp only
    congr 1
    show (alB c && (decide (c.toNat < 48) || decide (57 < c.toNat))) = _
    cases ha : alB c with
    | false => rfl
    | true =>
      rw [alB_iff] at ha
      rw [decide_eq_false (show ¬ c.toNat < 48 by omega)]; rfl

/-! ### Mail -/
def bMail : Bs := [109, 97, 105, 108, 116, 111, 58]
theorem enc_two (r : Int) (h : ¬ (0 ≤ r ∧ r ≤ 127)) : 2 ≤ (Lib.encodeRune r).length ∧ ∃ b ∈ Lib.encodeRune r, 128 ≤ b.toNat := by
  by_cases h2 : 128 ≤ r ∧ r ≤ 2047
  · unfold Lib.encodeRune
    rw [Lib.encodeRuneZ_two h2.1 h2.2]
    refine ⟨by simp, _, List.mem_map.2 ⟨192 + r / 64, List.mem_cons_self, rfl⟩, ?_⟩
    rw [UInt8.toNat_ofNat']; omega
  · unfold Lib.encodeRune Lib.encodeRuneZ
    simp only [h, h2, if_false]
    refine ⟨?_, ?_⟩
    · repeat' split
      all_goals simp
    · repeat' split
      all_goals refine ⟨_, List.mem_map.2 ⟨_, List.mem_cons_self, rfl⟩, ?_⟩
      all_goals rw [UInt8.toNat_ofNat']
      all_goals omega
theorem lower_bad : Lib.toLowerU 65533 = 65533 := by decide +kernel
theorem low_len : ∀ (n : Nat) (s : Bs), s.length ≤ n → (∀ b ∈ Lib.toLowerD s, b.toNat < 128) → (Lib.toLowerD s).length ≤ s.length ∧ ((Lib.toLowerD s).length = s.length → ∀ b ∈ s, b.toNat < 128)
  | _, [], _, _ => ⟨Nat.le_refl _, fun _ b hb => by cases hb⟩
  | 0, x :: s, h, _ => by simp at h
  | n + 1, x :: s, hn, h => by
    have hst := Lib.mapD_step Lib.toLowerU (x :: s) (by simp)
    have hr : (Lib.decodeL (x :: s)).1 ≤ 1114111 := Lib.decodeL_rune (x :: s)
    have h0 := (Lib.toLowerU_range (Lib.decodeL (x :: s)).1 hr).1
    rw [if_pos h0] at hst
    have hst : Lib.toLowerD (x :: s) = Lib.encodeRune (Lib.toLowerU (Lib.decodeL (x :: s)).1) ++ Lib.toLowerD ((x :: s).drop (Lib.decodeL (x :: s)).2) := hst
    rw [hst] at h ⊢
    have hA : 0 ≤ Lib.toLowerU (Lib.decodeL (x :: s)).1 ∧ Lib.toLowerU (Lib.decodeL (x :: s)).1 ≤ 127 := by
      refine Classical.byContradiction fun hc => ?_
      obtain ⟨_, b, hb, h8⟩ := enc_two _ hc
      have := h b (List.mem_append_left _ hb)
      omega
    have he1 : (Lib.encodeRune (Lib.toLowerU (Lib.decodeL (x :: s)).1)).length = 1 := by
      unfold Lib.encodeRune
      rw [Lib.encodeRuneZ_one hA.1 hA.2]; rfl
    have hw := Lib.decodeL_width (x :: s)
    have hle := Lib.decodeL_le (x :: s) (by simp)
    have hdl : ((x :: s).drop (Lib.decodeL (x :: s)).2).length = (x :: s).length - (Lib.decodeL (x :: s)).2 := List.length_drop
    have ih := low_len n ((x :: s).drop (Lib.decodeL (x :: s)).2) (by rw [hdl]; omega) (fun b hb => h b (List.mem_append_right _ hb))
    rw [List.length_append, he1]
    refine ⟨by rw [hdl] at ih; omega, fun heq => ?_⟩
    have hk : (Lib.decodeL (x :: s)).2 = 1 := by rw [hdl] at ih; omega
    have hx : x.toNat < 128 := by
      by_cases hv : (Lib.decodeL (x :: s)).1 = 65533 ∧ (Lib.decodeL (x :: s)).2 = 1
      · rw [hv.1] at hA
        have e : ((65533 : Nat) : Int) = 65533 := rfl
        rw [e, lower_bad] at hA
        omega
      · have hen := Lib.encode_decode (x :: s) (by simp) hv
        rw [hk] at hen
        refine decode_small x s ?_
        refine Classical.byContradiction fun hc => ?_
        have := (enc_two ((Lib.decodeL (x :: s)).1 : Int) (by omega)).1
        rw [hen] at this
        simp at this
    rw [hk, List.drop_succ_cons, List.drop_zero] at ih
    rw [hk, List.drop_succ_cons, List.drop_zero, List.length_cons] at heq
    intro b hb
    rcases List.mem_cons.1 hb with rfl | hb
    · exact hx
    · exact ih.2 (by omega) b hb
theorem low_mail (s : Bs) (h7 : s.length = 7) : (Lib.toLowerD s == bMail) = (small s == bMail) := by
  by_cases ha : ∀ b ∈ s, b.toNat < 128
  · rw [low_ascii s ha]
  · have h1 : (Lib.toLowerD s == bMail) = false := by
      rw [beq_eq_false_iff_ne]
      intro h
      have hl := low_len s.length s (Nat.le_refl _) (by rw [h]; decide)
      exact ha (hl.2 (by rw [h, h7]; rfl))
    have h2 : (small s == bMail) = false := by
      rw [beq_eq_false_iff_ne]
      intro h
      apply ha
      intro b hb
      rw [← smallB_ascii]
      have : smallB b ∈ bMail := by rw [← h]; exact List.mem_map.2 ⟨b, hb, rfl⟩
      revert this
      generalize smallB b = c
      intro hc
      unfold bMail at hc
      simp only [List.mem_cons, List.not_mem_nil, or_false] at hc
      rcases hc with rfl | rfl | rfl | rfl | rfl | rfl | rfl <;> decide
    rw [h1, h2]
end Go.Proofs.YtcpkkaimingnlaaGreatDoor
