/-
  Texts of this seat, joined: Lka, Lkb, Lkc, Lkd, Lke, Lkf, Lkg, Lkh, Lki. Each says what it proves, ahead of itself.
-/
import Derived.Lib.MapLaws
import Derived.Lib.CaseU
import Derived.Lib.IndexMore
import Derived.Lib.IndexAny
import Derived.Shelf.Strings.CaseAny
import Derived.Lib.SplitLaws
import Derived.Lib.Join
set_option linter.unusedVariables false
set_option linter.unusedSimpArgs false
section
namespace Go.Proofs.YtcpkkaimingnlaaGreatDoor

abbrev Bs := List UInt8
def digB (c : UInt8) : Bool := decide (48 ≤ c.toNat) && decide (c.toNat ≤ 57)
def alB (c : UInt8) : Bool := (decide (97 ≤ c.toNat) && decide (c.toNat ≤ 122)) || (decide (65 ≤ c.toNat) && decide (c.toNat ≤ 90)) || (decide (48 ≤ c.toNat) && decide (c.toNat ≤ 57))
def hostB (c : UInt8) : Bool := alB c || c == 45 || c == 46
def hexB (c : UInt8) : Bool := digB c || (decide (97 ≤ c.toNat) && decide (c.toNat ≤ 102)) || (decide (65 ≤ c.toNat) && decide (c.toNat ≤ 70))
def hexV (c : UInt8) : Nat := if c.toNat ≤ 57 then c.toNat - 48 else if c.toNat ≤ 70 then c.toNat - 55 else c.toNat - 87
def marksB : Bs := [34, 60, 62, 92, 94, 96, 123, 124, 125]
def okB (c : UInt8) : Bool := decide (33 ≤ c.toNat) && decide (c.toNat ≤ 126) && !marksB.contains c
def hex2 : Bs → Bool
  | a :: b :: _ => hexB a && hexB b
  | _ => false
def rightL : Bs → Bool
  | [] => true
  | c :: r => okB c && (c != 37 || hex2 r) && rightL r
def smallB (c : UInt8) : UInt8 := if decide (65 ≤ c.toNat) && decide (c.toNat ≤ 90) then c + 32 else c
def bHttp : Bs := [104, 116, 116, 112]
def bHttps : Bs := [104, 116, 116, 112, 115]
def isHttp (x : Bs) : Bool := x == bHttp || x == bHttps
structure Link where
  scheme : Bs
  host : Bs
  port : Nat
  path : Bs
  query : Bs
  frag : Bs
  hasQ : Bool
  hasF : Bool
def Link.zero : Link := ⟨[], [], 0, [], [], [], false, false⟩

/-! ### Up to a byte -/
theorem tw_app {p : UInt8 → Bool} : ∀ {a b : Bs}, (∀ x ∈ a, p x = true) → (∀ y r, b = y :: r → p y = false) → (a ++ b).takeWhile p = a ∧ (a ++ b).dropWhile p = b
  | [], [], _, _ => ⟨rfl, rfl⟩
  | [], y :: r, _, hb => by
    have h := hb y r rfl
    simp [List.takeWhile, List.dropWhile, h]
  | x :: a, b, ha, hb => by
    have h := ha x List.mem_cons_self
    have ih := tw_app (p := p) (a := a) (b := b) (fun y hy => ha y (List.mem_cons_of_mem _ hy)) hb
    simp [List.takeWhile, List.dropWhile, h, ih.1, ih.2]
theorem tw_all {p : UInt8 → Bool} {a : Bs} (ha : ∀ x ∈ a, p x = true) : a.takeWhile p = a ∧ a.dropWhile p = [] := by
  have := tw_app (b := []) ha (fun _ _ h => by cases h)
  rwa [List.append_nil] at this
theorem tw_mem {p : UInt8 → Bool} : ∀ (s : Bs), ∀ x ∈ s.takeWhile p, p x = true
  | [], x, h => by cases h
  | y :: s, x, h => by
    unfold List.takeWhile at h
    cases hp : p y with
    | true =>
      rw [hp] at h
      rcases List.mem_cons.1 h with rfl | h
      · exact hp
      · exact tw_mem s x h
    | false => rw [hp] at h; cases h
theorem dw_head {p : UInt8 → Bool} : ∀ (s : Bs) (y : UInt8) (r : Bs), s.dropWhile p = y :: r → p y = false
  | [], y, r, h => by cases h
  | x :: s, y, r, h => by
    unfold List.dropWhile at h
    cases hp : p x with
    | true => rw [hp] at h; exact dw_head s y r h
    | false => rw [hp] at h; injection h with h1 _; rw [← h1]; exact hp
theorem tw_dw (p : UInt8 → Bool) (s : Bs) : s.takeWhile p ++ s.dropWhile p = s := List.takeWhile_append_dropWhile
theorem take_tw (p : UInt8 → Bool) (s : Bs) : s.take (s.takeWhile p).length = s.takeWhile p := by
  conv => lhs; arg 2; rw [← tw_dw p s]
  rw [List.take_left]
theorem drop_tw (p : UInt8 → Bool) (s : Bs) : s.drop (s.takeWhile p).length = s.dropWhile p := by
  conv => lhs; arg 2; rw [← tw_dw p s]
  rw [List.drop_left]
def ne (c : UInt8) : UInt8 → Bool := fun x => x != c
def out (ch : Bs) : UInt8 → Bool := fun x => !ch.contains x
theorem ne_true {c x : UInt8} : ne c x = true ↔ x ≠ c := by unfold ne; exact bne_iff_ne
theorem ne_false {c x : UInt8} : ne c x = false ↔ x = c := by unfold ne; simp

/-! ### Go's search, by these -/
theorem index1 (c : UInt8) : ∀ s : Bs, Lib.index s [c] = if s.dropWhile (ne c) = [] then -1 else ((s.takeWhile (ne c)).length : Int)
  | [] => by rfl
  | x :: s => by
    have ih := index1 c s
    unfold Lib.index
    by_cases h : x = c
    · subst h
      have hn : ne x x = false := ne_false.2 rfl
      rw [if_pos (by simp [List.isPrefixOf])]
      simp [List.takeWhile, List.dropWhile, hn]
    · have hn : ne c x = true := ne_true.2 h
      have hc : (c == x) = false := by rw [beq_eq_false_iff_ne]; exact fun e => h e.symm
      rw [if_neg (by simp [List.isPrefixOf, hc])]
      simp only [List.takeWhile, List.dropWhile, hn]
      rw [ih]
      by_cases hd : s.dropWhile (ne c) = []
      · rw [if_pos hd, if_pos hd]; rfl
      · rw [if_neg hd, if_neg hd, if_neg (by simp), List.length_cons]
        rfl
theorem cut1 (c : UInt8) (s : Bs) : Lib.cut s [c] = (s.takeWhile (ne c), (s.dropWhile (ne c)).drop 1, !(s.dropWhile (ne c)).isEmpty) := by
  have hs := tw_dw (ne c) s
  unfold Lib.cut
  rw [index1]
  by_cases hd : s.dropWhile (ne c) = []
  · rw [if_pos hd, if_neg (by decide), hd]
    rw [hd, List.append_nil] at hs
    rw [hs]; rfl
  · rw [if_neg hd, if_pos (by omega), Int.toNat_natCast, take_tw, ← List.drop_drop, drop_tw]
    cases h : s.dropWhile (ne c) with
    | nil => exact absurd h hd
    | cons y r => rfl
theorem indexAny1 (ch : Bs) : ∀ s : Bs, Lib.indexAny s ch = if s.dropWhile (out ch) = [] then -1 else ((s.takeWhile (out ch)).length : Int)
  | [] => by rfl
  | x :: s => by
    have ih := indexAny1 ch s
    unfold Lib.indexAny
    by_cases h : ch.contains x = true
    · have hn : out ch x = false := by unfold out; rw [h]; rfl
      rw [if_pos h]
      simp [List.takeWhile, List.dropWhile, hn]
    · have hn : out ch x = true := by unfold out; simpa using h
      rw [if_neg h]
      simp only [List.takeWhile, List.dropWhile, hn]
      rw [ih]
      by_cases hd : s.dropWhile (out ch) = []
      · rw [if_pos hd, if_pos hd]; rfl
      · rw [if_neg hd, if_neg hd, if_neg (by simp), List.length_cons]
        rfl
/-- Where the first of some bytes is, or the end. -/
def stop (ch s : Bs) : Nat := (s.takeWhile (out ch)).length
theorem stop_any (ch s : Bs) : (if Lib.indexAny s ch < 0 then (s.length : Int) else Lib.indexAny s ch) = (stop ch s : Int) := by
  have hs := tw_dw (out ch) s
  rw [indexAny1]
  unfold stop
  by_cases hd : s.dropWhile (out ch) = []
  · rw [if_pos hd, if_pos (by decide)]
    rw [hd, List.append_nil] at hs
    rw [hs]
  · rw [if_neg hd, if_neg (by omega)]
theorem take_stop (ch s : Bs) : s.take (stop ch s) = s.takeWhile (out ch) := take_tw _ s
theorem drop_stop (ch s : Bs) : s.drop (stop ch s) = s.dropWhile (out ch) := drop_tw _ s
theorem out_true {ch : Bs} {x : UInt8} : out ch x = true ↔ x ∉ ch := by unfold out; simp
theorem out_false {ch : Bs} {x : UInt8} : out ch x = false ↔ x ∈ ch := by unfold out; simp

/-! ### Small letters, of any text -/
def small (s : Bs) : Bs := s.map smallB
/-- No letter of another script becomes one of these. -/
def noRow (x : Lib.CaseRow) : Bool := decide (x.2.1 ≤ 127) || (decide (128 ≤ x.1) && ([104, 112, 115, 116] : List Int).all fun c => if x.delta 1 > 1114111 then true else decide (¬ ((x.1 : Int) ≤ c - x.delta 1 ∧ c - x.delta 1 ≤ (x.2.1 : Int))))
theorem noRows : Lib.caseT.all noRow = true := by decide +kernel
end Go.Proofs.YtcpkkaimingnlaaGreatDoor
end
section
namespace Go.Proofs.YtcpkkaimingnlaaGreatDoor

def lowS : List Int := [104, 112, 115, 116]
theorem lower_far (r : Int) (h : 128 ≤ r) : Lib.toLowerU r ∉ lowS := by
  unfold Lib.toLowerU
  rw [if_neg (by omega)]
  unfold Lib.toR Lib.lookupGo
  cases hi : Lib.lookupIdx Lib.caseA r (Lib.caseA.size + 1) 0 Lib.caseA.size with
  | none => show r ∉ lowS; unfold lowS; simp only [List.mem_cons, List.not_mem_nil, or_false]; omega
  | some i =>
    obtain ⟨hil, hlo, hhi⟩ := Lib.lookupIdx_some Lib.caseA r _ _ _ i hi
    have hm : noRow (Lib.caseA.getD i (0, 0, 0, 0, 0)) = true := by
      have hm : Lib.caseA.getD i (0, 0, 0, 0, 0) ∈ Lib.caseT := by
        unfold Lib.caseA at hil ⊢
        simp only [List.size_toArray] at hil
        simp [Array.getD, hil]
      exact List.all_eq_true.1 noRows _ hm
    show Lib.convertR 1 r (Lib.caseA.getD i (0, 0, 0, 0, 0)) ∉ lowS
    generalize Lib.caseA.getD i (0, 0, 0, 0, 0) = x at *
    unfold noRow at hm
    simp only [Bool.or_eq_true, Bool.and_eq_true, decide_eq_true_eq, List.all_eq_true] at hm
    rcases hm with hm | ⟨hm1, hm2⟩
    · omega
    · intro hmem
      have hc := hm2 _ hmem
      unfold Lib.convertR at hc
      by_cases hd : x.delta 1 > 1114111
      · unfold Lib.convertR at hmem
        rw [if_pos hd] at hmem
        unfold lowS at hmem
        simp only [List.mem_cons, List.not_mem_nil, or_false] at hmem
        have e1 : ((1 % 2 : Nat) : Int) = 1 := rfl
        rw [e1] at hmem
        omega
      · rw [if_neg hd, if_neg hd] at hc
        simp only [decide_eq_true_eq] at hc
        omega
theorem lowerB_small (c : UInt8) : Lib.lowerB c = smallB c := by
  unfold Lib.lowerB Lib.isUpperB smallB
  simp [UInt8.le_iff_toNat_le]
theorem low_ascii (s : Bs) (h : ∀ b ∈ s, b.toNat < 128) : Lib.toLowerD s = small s := by
  rw [Lib.toLowerD_ascii s h]
  unfold Lib.toLowerA small
  exact List.map_congr_left fun b _ => lowerB_small b
theorem smallB_ascii (c : UInt8) : (smallB c).toNat < 128 ↔ c.toNat < 128 := by
  unfold smallB
  split
  · rename_i h
    simp only [Bool.and_eq_true, decide_eq_true_eq] at h
    rw [UInt8.toNat_add]
    show (c.toNat + 32) % 256 < 128 ↔ _
    omega
  · exact Iff.rfl
theorem encode_S (r : Int) (h0 : 0 ≤ r) (h : ∀ b ∈ Lib.encodeRune r, ((b.toNat : Nat) : Int) ∈ lowS) : r ∈ lowS := by
  by_cases h1 : r ≤ 127
  · unfold Lib.encodeRune at h
    rw [Lib.encodeRuneZ_one h0 h1] at h
    have := h _ (List.mem_map.2 ⟨r, List.mem_singleton.2 rfl, rfl⟩)
    have e : ((r.toNat.toUInt8.toNat : Nat) : Int) = r := by
      rw [UInt8.toNat_ofNat']
      omega
    rwa [e] at this
  · exfalso
    obtain ⟨b, hb, hb2⟩ : ∃ b ∈ Lib.encodeRune r, 128 ≤ b.toNat := by
      by_cases h2 : r ≤ 2047
      · refine ⟨_, List.mem_map.2 ⟨192 + r / 64, ?_, rfl⟩, ?_⟩
        · rw [Lib.encodeRuneZ_two (by omega) h2]; exact List.mem_cons_self
        · rw [UInt8.toNat_ofNat']; omega
      · unfold Lib.encodeRune Lib.encodeRuneZ
        simp only [show ¬ (0 ≤ r ∧ r ≤ 127) by omega, show ¬ (128 ≤ r ∧ r ≤ 2047) by omega, if_false]
        repeat' split
        all_goals refine ⟨_, List.mem_map.2 ⟨_, List.mem_cons_self, rfl⟩, ?_⟩
        all_goals rw [UInt8.toNat_ofNat']
        all_goals omega
    have := h b hb
    unfold lowS at this
    simp only [List.mem_cons, List.not_mem_nil, or_false] at this
    omega
theorem decode_small (b : UInt8) (t : Bs) (h : (Lib.decodeL (b :: t)).1 ≤ 127) : b.toNat < 128 := by
  by_cases hv : (Lib.decodeL (b :: t)).1 = 65533 ∧ (Lib.decodeL (b :: t)).2 = 1
  · omega
  · have he := Lib.encode_decode (b :: t) (by simp) hv
    unfold Lib.encodeRune at he
    rw [Lib.encodeRuneZ_one (by omega) (by omega)] at he
    have hw : (Lib.decodeL (b :: t)).2 ≠ 0 := by
      intro h0; rw [h0] at he; cases he
    obtain ⟨k, hk⟩ : ∃ k, (Lib.decodeL (b :: t)).2 = k + 1 := ⟨_, (Nat.succ_pred hw).symm⟩
    rw [hk, List.take_succ_cons] at he
    injection he with he _
    rw [← he, UInt8.toNat_ofNat']
    omega
theorem low_back : ∀ (n : Nat) (s : Bs), s.length ≤ n → (∀ b ∈ Lib.toLowerD s, ((b.toNat : Nat) : Int) ∈ lowS) → ∀ b ∈ s, b.toNat < 128
  | _, [], _, _, b, hb => by cases hb
  | 0, x :: s, h, _, _, _ => by simp at h
  | n + 1, x :: s, hn, h, b, hb => by
    have hst := Lib.mapD_step Lib.toLowerU (x :: s) (by simp)
    have hr : (Lib.decodeL (x :: s)).1 ≤ 1114111 := Lib.decodeL_rune (x :: s)
    have h0 := (Lib.toLowerU_range (Lib.decodeL (x :: s)).1 hr).1
    rw [if_pos h0] at hst
    unfold Lib.toLowerD at h
    rw [hst] at h
    have hS := encode_S _ h0 (fun b hb => h b (List.mem_append_left _ hb))
    have hsm : (Lib.decodeL (x :: s)).1 ≤ 127 := by
      refine Classical.byContradiction fun hc => ?_
      exact lower_far _ (by omega) hS
    have hx := decode_small x s hsm
    rw [Lib.decodeL_ascii x s hx] at h
    dsimp only at h
    rw [List.drop_succ_cons, List.drop_zero] at h
    rcases List.mem_cons.1 hb with rfl | hb
    · exact hx
    · exact low_back n s (by rw [List.length_cons] at hn; omega) (fun b hb => h b (List.mem_append_right _ hb)) b hb
theorem isHttp_S (s : Bs) (h : isHttp s = true) : ∀ b ∈ s, ((b.toNat : Nat) : Int) ∈ lowS := by
  unfold isHttp at h
  rw [Bool.or_eq_true, beq_iff_eq, beq_iff_eq] at h
  rcases h with rfl | rfl <;> decide
/-- Which texts have "http", "https" for their small letters. -/
theorem low_http (s : Bs) : isHttp (Lib.toLowerD s) = isHttp (small s) := by
  by_cases ha : ∀ b ∈ s, b.toNat < 128
  · rw [low_ascii s ha]
  · have h1 : isHttp (Lib.toLowerD s) = false := by
      cases h : isHttp (Lib.toLowerD s) with
      | false => rfl
      | true => exact absurd (low_back s.length s (Nat.le_refl _) (isHttp_S _ h)) ha
    have h2 : isHttp (small s) = false := by
      cases h : isHttp (small s) with
      | false => rfl
      | true =>
        exfalso
        apply ha
        intro b hb
        have := isHttp_S _ h (smallB b) (List.mem_map.2 ⟨b, hb, rfl⟩)
        rw [← smallB_ascii]
        unfold lowS at this
        simp only [List.mem_cons, List.not_mem_nil, or_false] at this
        omega
    rw [h1, h2]

/-! ### Numbers -/
def valD (s : Bs) : Nat := s.foldl (fun n c => 10 * n + (c.toNat - 48)) 0
def decT (n : Nat) : Bs := if h : n < 10 then [UInt8.ofNat (48 + n)] else decT (n / 10) ++ [UInt8.ofNat (48 + n % 10)]
termination_by n
decreasing_by omega
theorem valD_snoc (s : Bs) (c : UInt8) : valD (s ++ [c]) = 10 * valD s + (c.toNat - 48) := by
  unfold valD; rw [List.foldl_append]; rfl
theorem ofn48 (n : Nat) (h : n < 10) : (UInt8.ofNat (48 + n)).toNat = 48 + n := by
  rw [UInt8.toNat_ofNat']; omega
theorem decT_spec : ∀ n : Nat, valD (decT n) = n ∧ (∀ c ∈ decT n, digB c = true) ∧ decT n ≠ [] ∧ (1 ≤ n → (decT n).head? ≠ some 48) ∧ 10 ^ (decT n).length ≤ 10 * max n 1 := by
  intro n
  induction n using Nat.strongRecOn with
  | _ n ih =>
    unfold decT
    by_cases h : n < 10
    · rw [dif_pos h]
      have e := ofn48 n h
      refine ⟨?_, ?_, by simp, ?_, ?_⟩
      · show valD ([] ++ [_]) = n; rw [valD_snoc, e]; show 10 * 0 + _ = n; omega
      · intro c hc
        rw [List.mem_singleton.1 hc]
        unfold digB; rw [e]; simp; omega
      · intro h1 h2
        simp only [List.head?_cons, Option.some.injEq] at h2
        have := congrArg UInt8.toNat h2
        rw [e] at this
        have : 48 + n = 48 := this
        omega
      · show 10 ^ 1 ≤ _; omega
    · rw [dif_neg h]
      obtain ⟨h1, h2, h3, h4, h5⟩ := ih (n / 10) (by omega)
      have e := ofn48 (n % 10) (by omega)
      refine ⟨?_, ?_, by simp, ?_, ?_⟩
      · rw [valD_snoc, h1, e]; omega
      · intro c hc
        rcases List.mem_append.1 hc with hc | hc
        · exact h2 c hc
        · rw [List.mem_singleton.1 hc]
          unfold digB; rw [e]; simp; omega
      · intro _
        have := h4 (by omega)
        cases hd : decT (n / 10) with
        | nil => exact absurd hd h3
        | cons x r => rw [hd] at this; simpa using this
      · rw [List.length_append, List.length_singleton, Nat.pow_succ]
        have : max (n / 10) 1 = n / 10 := by omega
        rw [this] at h5
        have : max n 1 = n := by omega
        omega
/-- A number's digits, when there is no idle zero, are these. -/
theorem decT_val : ∀ (k : Nat) (s : Bs), s.length ≤ k → s ≠ [] → (∀ c ∈ s, digB c = true) → s.head? ≠ some 48 → decT (valD s) = s ∧ 1 ≤ valD s
  | 0, s, h, h0, _, _ => absurd (List.length_eq_zero_iff.1 (by omega)) h0
  | k + 1, s, hk, h0, hd, hh => by
    obtain ⟨t, c, rfl⟩ : ∃ t c, s = t ++ [c] := ⟨s.dropLast, s.getLast h0, (List.dropLast_concat_getLast h0).symm⟩
    have hc := hd c (List.mem_append_right _ (List.mem_singleton.2 rfl))
    have hcl := c.toNat_lt
    unfold digB at hc
    simp only [Bool.and_eq_true, decide_eq_true_eq] at hc
    have hcc : UInt8.ofNat (48 + (c.toNat - 48)) = c := by
      rw [show 48 + (c.toNat - 48) = c.toNat by omega]; simp
    rw [valD_snoc]
    by_cases ht : t = []
    · subst ht
      have hne : c.toNat ≠ 48 := by
        intro e
        apply hh
        have : c = 48 := by rw [← UInt8.toNat_inj]; exact e
        rw [this]; rfl
      show decT (10 * 0 + _) = _ ∧ _
      unfold decT
      rw [dif_pos (by omega)]
      refine ⟨?_, by show 1 ≤ 10 * 0 + _; omega⟩
      rw [show 48 + (10 * 0 + (c.toNat - 48)) = 48 + (c.toNat - 48) by omega, hcc]; rfl
    · obtain ⟨i1, i2⟩ := decT_val k t (by rw [List.length_append, List.length_singleton] at hk; omega) ht (fun x hx => hd x (List.mem_append_left _ hx)) (by
        cases t with
        | nil => exact absurd rfl ht
        | cons x r => simpa using hh)
      unfold decT
      rw [dif_neg (by omega)]
      refine ⟨?_, by omega⟩
      rw [show (10 * valD t + (c.toNat - 48)) / 10 = valD t by omega, show (10 * valD t + (c.toNat - 48)) % 10 = c.toNat - 48 by omega, i1, hcc]
end Go.Proofs.YtcpkkaimingnlaaGreatDoor
end
section
namespace Go.Proofs.YtcpkkaimingnlaaGreatDoor

def portT (p : Nat) : Bs := if p = 0 then [] else 58 :: decT p
def qT (l : Link) : Bs := if l.hasQ then 63 :: l.query else []
def fT (l : Link) : Bs := if l.hasF then 35 :: l.frag else []
def originL (l : Link) : Bs := l.scheme ++ [58, 47, 47] ++ l.host ++ portT l.port
def printL (l : Link) : Bs := originL l ++ l.path ++ qT l ++ fT l
/-- All of a link but its scheme. -/
structure WF (l : Link) : Prop where
  host1 : 1 ≤ l.host.length
  host2 : l.host.length ≤ 253
  hostC : ∀ c ∈ l.host, hostB c = true
  port : l.port ≤ 65535
  path : ∀ y r, l.path = y :: r → y = 47
  pathC : ∀ c ∈ l.path, c ≠ 63 ∧ c ≠ 35
  queryC : ∀ c ∈ l.query, c ≠ 35
  fragC : ∀ c ∈ l.frag, c ≠ 35
  pathR : rightL l.path = true
  queryR : rightL l.query = true
  fragR : rightL l.frag = true
  noQ : l.hasQ = false → l.query = []
  noF : l.hasF = false → l.frag = []

/-! ### Right texts -/
theorem hex2_app (a b : Bs) (hb : ∀ y r, b = y :: r → hexB y = false) : hex2 (a ++ b) = hex2 a := by
  match a with
  | [] =>
    rw [List.nil_append]
    match b with
    | [] => rfl
    | [y] => rfl
    | y :: z :: r => show (hexB y && hexB z) = false; rw [hb y _ rfl]; rfl
  | [x] =>
    match b with
    | [] => rfl
    | y :: r => show (hexB x && hexB y) = false; rw [hb y r rfl, Bool.and_false]
  | x :: y :: r => rfl
theorem rightL_cons (c : UInt8) (r : Bs) : rightL (c :: r) = (okB c && (c != 37 || hex2 r) && rightL r) := rfl
theorem right_app (b : Bs) (hb : ∀ y r, b = y :: r → hexB y = false) : ∀ a : Bs, rightL (a ++ b) = (rightL a && rightL b)
  | [] => by rw [List.nil_append]; rfl
  | x :: a => by
    rw [List.cons_append, rightL_cons, rightL_cons, hex2_app a b hb, right_app b hb a, Bool.and_assoc (okB x && (x != 37 || hex2 a))]
theorem right_cons {c : UInt8} {s : Bs} (h : okB c = true) (h2 : c ≠ 37) : rightL (c :: s) = rightL s := by
  rw [rightL_cons, h, bne_iff_ne.2 h2]; rfl
theorem right_tail (l : Link) : rightL (l.path ++ qT l ++ fT l) = (rightL l.path && (if l.hasQ then rightL l.query else true) && (if l.hasF then rightL l.frag else true)) := by
  have hf : ∀ y r, fT l = y :: r → hexB y = false := by
    intro y r h
    unfold fT at h
    split at h
    · injection h with h _; rw [← h]; decide
    · cases h
  have hq : ∀ y r, qT l = y :: r → hexB y = false := by
    intro y r h
    unfold qT at h
    split at h
    · injection h with h _; rw [← h]; decide
    · cases h
  rw [right_app _ hf, right_app _ hq]
  congr 1
  · congr 1
    unfold qT
    split
    · exact right_cons (by decide) (by decide)
    · rfl
  · unfold fT
    split
    · exact right_cons (by decide) (by decide)
    · rfl
theorem WF.right {l : Link} (h : WF l) : rightL (l.path ++ qT l ++ fT l) = true := by
  rw [right_tail, h.pathR, h.queryR, h.fragR]; simp

/-! ### What the parts are made of -/
theorem alB_iff (c : UInt8) : alB c = true ↔ (97 ≤ c.toNat ∧ c.toNat ≤ 122) ∨ (65 ≤ c.toNat ∧ c.toNat ≤ 90) ∨ (48 ≤ c.toNat ∧ c.toNat ≤ 57) := by
  unfold alB; simp only [Bool.or_eq_true, Bool.and_eq_true, decide_eq_true_eq, or_assoc]
theorem host_not {c : UInt8} (h : hostB c = true) : c ≠ 58 ∧ c ≠ 47 ∧ c ≠ 63 ∧ c ≠ 35 := by
  refine ⟨?_, ?_, ?_, ?_⟩ <;> (rintro rfl; revert h; decide)
theorem dig_not {c : UInt8} (h : digB c = true) : c ≠ 58 ∧ c ≠ 47 ∧ c ≠ 63 ∧ c ≠ 35 := by
  refine ⟨?_, ?_, ?_, ?_⟩ <;> (rintro rfl; revert h; decide)
theorem sch_not {s : Bs} (h : isHttp (small s) = true) : ∀ c ∈ s, c ≠ 58 := by
  intro c hc e
  subst e
  have h1 := isHttp_S _ h (smallB 58) (List.mem_map.2 ⟨58, hc, rfl⟩)
  revert h1; decide
/-! ### The end of a link -/
/-- What follows the port: path, query, fragment; none: a fragment holds a mark. -/
def tailP (t : Bs) : Bs × Bs × Bs × Bool × Bool :=
  let f := Lib.cut t [35]
  let q := Lib.cut f.1 [63]
  (q.1, q.2.1, f.2.1, q.2.2, f.2.2)
def ends (t : Bs) (p q f : Bs) (hq hf : Bool) : Prop :=
  t = p ++ (if hq then 63 :: q else []) ++ (if hf then 35 :: f else []) ∧ (∀ c ∈ p, c ≠ 63 ∧ c ≠ 35) ∧ (∀ c ∈ q, c ≠ 35) ∧ (hq = false → q = []) ∧ (hf = false → f = [])
theorem tailP_ends (t : Bs) : ends t (tailP t).1 (tailP t).2.1 (tailP t).2.2.1 (tailP t).2.2.2.1 (tailP t).2.2.2.2 := by
  unfold tailP
  dsimp only
  rw [cut1]
  dsimp only
  rw [cut1]
  dsimp only
  have a1 := tw_dw (ne 35) t
  have a2 := tw_mem (p := ne 35) t
  have a3 := dw_head (p := ne 35) t
  generalize t.takeWhile (ne 35) = u at *
  generalize t.dropWhile (ne 35) = v at *
  have b1 := tw_dw (ne 63) u
  have b2 := tw_mem (p := ne 63) u
  have b3 := dw_head (p := ne 63) u
  generalize u.takeWhile (ne 63) = x at *
  generalize u.dropWhile (ne 63) = y at *
  subst b1 a1
  refine ⟨?_, ?_, ?_, ?_, ?_⟩
  · congr 1
    · congr 1
      cases y with
      | nil => rfl
      | cons c r => rw [ne_false.1 (b3 c r rfl)]; rfl
    · cases v with
      | nil => rfl
      | cons c r => rw [ne_false.1 (a3 c r rfl)]; rfl
  · exact fun c hc => ⟨ne_true.1 (b2 c hc), ne_true.1 (a2 c (List.mem_append_left _ hc))⟩
  · exact fun c hc => ne_true.1 (a2 c (List.mem_append_right _ (List.mem_of_mem_drop hc)))
  · intro h; cases y with
    | nil => rfl
    | cons c r => cases h
  · intro h; cases v with
    | nil => rfl
    | cons c r => cases h
theorem tailP_of {t p q f : Bs} {hq hf : Bool} (h : ends t p q f hq hf) : tailP t = (p, q, f, hq, hf) := by
  obtain ⟨h1, h2, h3, h4, h5⟩ := h
  have e1 : t.takeWhile (ne 35) = p ++ (if hq then 63 :: q else []) ∧ t.dropWhile (ne 35) = (if hf then 35 :: f else []) := by
    rw [h1]
    refine tw_app ?_ ?_
    · intro x hx
      rw [ne_true]
      rcases List.mem_append.1 hx with hx | hx
      · exact (h2 x hx).2
      · cases hq with
        | false => cases hx
        | true =>
          rcases List.mem_cons.1 hx with rfl | hx
          · decide
          · exact h3 x hx
    · intro y r hy
      cases hf with
      | false => cases hy
      | true => injection hy with hy _; rw [← hy]; exact ne_false.2 rfl
  have e2 : (p ++ (if hq then 63 :: q else [])).takeWhile (ne 63) = p ∧ (p ++ (if hq then 63 :: q else [])).dropWhile (ne 63) = (if hq then 63 :: q else []) := by
    refine tw_app (fun x hx => ne_true.2 (h2 x hx).1) ?_
    intro y r hy
    cases hq with
    | false => cases hy
    | true => injection hy with hy _; rw [← hy]; exact ne_false.2 rfl
  unfold tailP
  dsimp only
  rw [cut1]
  dsimp only
  rw [cut1]
  dsimp only
  rw [e1.1, e1.2, e2.1, e2.2]
  cases hq <;> cases hf <;> simp_all
/-- Another way: up to a mark, what follows it, and so on. -/
def tailR (t : Bs) : Bs × Bs × Bs × Bool × Bool :=
  let p := t.takeWhile (out [63, 35])
  match t.dropWhile (out [63, 35]) with
  | [] => (p, [], [], false, false)
  | c :: r => if c = 63 then
      (match r.dropWhile (ne 35) with
      | [] => (p, r.takeWhile (ne 35), [], true, false)
      | _ :: f => (p, r.takeWhile (ne 35), f, true, true))
    else (p, [], r, false, true)
theorem tailR_eq (t : Bs) : tailR t = tailP t := by
  symm
  have a1 := tw_dw (out [63, 35]) t
  have a2 := tw_mem (p := out [63, 35]) t
  have a3 := dw_head (p := out [63, 35]) t
  unfold tailR
  dsimp only
  generalize t.takeWhile (out [63, 35]) = p at *
  generalize hv : t.dropWhile (out [63, 35]) = v at *
  have hp : ∀ c ∈ p, c ≠ 63 ∧ c ≠ 35 := by
    intro c hc
    have := out_true.1 (a2 c hc)
    simp only [List.mem_cons, List.not_mem_nil, or_false] at this
    exact ⟨fun h => this (.inl h), fun h => this (.inr h)⟩
  cases v with
  | nil => exact tailP_of ⟨by rw [← a1]; simp, hp, (fun _ h => by cases h), fun _ => rfl, fun _ => rfl⟩
  | cons c r =>
    have hc := out_false.1 (a3 c r rfl)
    simp only [List.mem_cons, List.not_mem_nil, or_false] at hc
    dsimp only
    by_cases h63 : c = 63
    · subst h63
      rw [if_pos rfl]
      have b1 := tw_dw (ne 35) r
      have b2 := tw_mem (p := ne 35) r
      have b3 := dw_head (p := ne 35) r
      generalize r.takeWhile (ne 35) = q at *
      generalize hw : r.dropWhile (ne 35) = w at *
      cases w with
      | nil => exact tailP_of ⟨by rw [← a1, ← b1]; simp, hp, fun x hx => ne_true.1 (b2 x hx), (fun h => by cases h), fun _ => rfl⟩
      | cons d f =>
        have hd := ne_false.1 (b3 d f rfl)
        subst hd
        exact tailP_of ⟨by rw [← a1, ← b1]; simp, hp, fun x hx => ne_true.1 (b2 x hx), (fun h => by cases h), (fun h => by cases h)⟩
    · rw [if_neg h63]
      have h35 : c = 35 := hc.resolve_left h63
      subst h35
      exact tailP_of ⟨by rw [← a1]; simp, hp, (fun _ h => by cases h), fun _ => rfl, (fun h => by cases h)⟩

/-! ### The program's way -/
def portP (s : Bs) : Nat := if s ≠ [] ∧ s.all digB = true ∧ valD s ≤ 65535 ∧ s.head? ≠ some 48 then valD s else 0
def restP (sch rest : Bs) : Option Link :=
  let h := Lib.cut (rest.take (stop [47, 63, 35] rest)) [58]
  let tail := rest.drop (stop [47, 63, 35] rest)
  if h.1.length < 1 ∨ 253 < h.1.length ∨ h.1.all hostB = false ∨ (h.2.2 = true ∧ portP h.2.1 = 0) ∨ rightL tail = false then none
  else if 0 ≤ Lib.index (tailP tail).2.2.1 [35] then none
  else some ⟨(sch), h.1, if h.2.2 = true then portP h.2.1 else 0, (tailP tail).1, (tailP tail).2.1, (tailP tail).2.2.1, (tailP tail).2.2.2.1, (tailP tail).2.2.2.2⟩
def parseP (s : Bs) : Option Link :=
  if 2048 < s.length then none
  else if (Lib.cut s [58, 47, 47]).2.2 = false ∨ isHttp (Lib.toLowerD (Lib.cut s [58, 47, 47]).1) = false then none
  else restP (Lib.cut s [58, 47, 47]).1 (Lib.cut s [58, 47, 47]).2.1
theorem index_no (c : UInt8) (s : Bs) : ¬ 0 ≤ Lib.index s [c] ↔ ∀ x ∈ s, x ≠ c := by
  have h := tw_dw (ne c) s
  have h2 := tw_mem (p := ne c) s
  have h3 := dw_head (p := ne c) s
  rw [index1]
  by_cases hd : s.dropWhile (ne c) = []
  · rw [if_pos hd]
    rw [hd, List.append_nil] at h
    refine ⟨fun _ x hx => ne_true.1 (h2 x (by rw [h]; exact hx)), fun _ => by decide⟩
  · rw [if_neg hd]
    refine ⟨fun h => by omega, fun hn => ?_⟩
    cases hv : s.dropWhile (ne c) with
    | nil => exact absurd hv hd
    | cons y r =>
      have := ne_false.1 (h3 y r hv)
      refine absurd this (hn y ?_)
      rw [← h, hv]; simp
/-- What stands behind "://", of a link. -/
def restT (l : Link) : Bs := l.host ++ portT l.port ++ (l.path ++ qT l ++ fT l)
theorem portP_of (p : Nat) (hp : p ≤ 65535) (h0 : p ≠ 0) : portP (decT p) = p := by
  obtain ⟨h1, h2, h3, h4, _⟩ := decT_spec p
  unfold portP
  rw [if_pos ⟨h3, List.all_eq_true.2 h2, by rw [h1]; exact hp, h4 (by omega)⟩, h1]
theorem portT_not (p : Nat) : ∀ x ∈ portT p, x ≠ 47 ∧ x ≠ 63 ∧ x ≠ 35 := by
  intro x hx
  unfold portT at hx
  split at hx
  · cases hx
  · rcases List.mem_cons.1 hx with rfl | hx
    · decide
    · exact (dig_not ((decT_spec p).2.1 x hx)).2
theorem tail_head (l : Link) (hp : ∀ y r, l.path = y :: r → y = 47) : ∀ y r, l.path ++ qT l ++ fT l = y :: r → y = 47 ∨ y = 63 ∨ y = 35 := by
  intro y r h
  cases hl : l.path with
  | cons c t =>
    rw [hl] at h
    injection h with h _
    rw [← h]; exact .inl (hp c t hl)
  | nil =>
    rw [hl, List.nil_append] at h
    unfold qT at h
    split at h
    · injection h with h _; rw [← h]; exact .inr (.inl rfl)
    · rw [List.nil_append] at h
      unfold fT at h
      split at h
      · injection h with h _; rw [← h]; exact .inr (.inr rfl)
      · cases h
theorem restP_iff (sch rest : Bs) (l : Link) : restP sch rest = some l ↔ (l.scheme = sch ∧ rest = restT l ∧ WF l) := by
  constructor
  · intro h
    unfold restP at h
    dsimp only at h
    rw [take_stop, drop_stop] at h
    have a1 := tw_dw (out [47, 63, 35]) rest
    have a2 := tw_mem (p := out [47, 63, 35]) rest
    have a3 := dw_head (p := out [47, 63, 35]) rest
    generalize rest.takeWhile (out [47, 63, 35]) = hp at *
    generalize rest.dropWhile (out [47, 63, 35]) = tail at *
    have b1 := tw_dw (ne 58) hp
    have b2 := tw_mem (p := ne 58) hp
    have b3 := dw_head (p := ne 58) hp
    rw [cut1] at h
    dsimp only at h
    generalize hp.takeWhile (ne 58) = name at *
    generalize hp.dropWhile (ne 58) = num at *
    split at h
    · cases h
    · rename_i hc
      split at h
      · cases h
      · rename_i hc2
        have ht := tailP_ends tail
        generalize tailP tail = T at *
        obtain ⟨p, q, f, hq, hf⟩ := T
        dsimp only at h hc2 ht
        injection h with h
        subst h
        obtain ⟨t1, t2, t3, t4, t5⟩ := ht
        rw [index_no] at hc2
        have c1 : ¬ name.length < 1 := fun h => hc (.inl h)
        have c2 : ¬ 253 < name.length := fun h => hc (.inr (.inl h))
        have c3 : name.all hostB = true := by
          cases h : name.all hostB with
          | true => rfl
          | false => exact absurd (.inr (.inr (.inl h))) hc
        have c4 : ¬ ((!num.isEmpty) = true ∧ portP (num.drop 1) = 0) := fun h => hc (.inr (.inr (.inr (.inl h))))
        have c5 : rightL tail = true := by
          cases h : rightL tail with
          | true => rfl
          | false => exact absurd (.inr (.inr (.inr (.inr h)))) hc
        have hport : (if (!num.isEmpty) = true then portP (num.drop 1) else 0) ≤ 65535 ∧ num = portT (if (!num.isEmpty) = true then portP (num.drop 1) else 0) := by
          cases num with
          | nil => exact ⟨by decide, rfl⟩
          | cons c r =>
            have := ne_false.1 (b3 c r rfl)
            subst this
            show portP r ≤ 65535 ∧ 58 :: r = portT (portP r)
            have hz : portP r ≠ 0 := fun h => c4 ⟨rfl, h⟩
            unfold portP at hz ⊢
            by_cases hr : r ≠ [] ∧ r.all digB = true ∧ valD r ≤ 65535 ∧ r.head? ≠ some 48
            · rw [if_pos hr] at hz ⊢
              obtain ⟨r1, r2, r3, r4⟩ := hr
              refine ⟨r3, ?_⟩
              unfold portT
              rw [if_neg hz, (decT_val r.length r (Nat.le_refl _) r1 (List.all_eq_true.1 r2) r4).1]
            · rw [if_neg hr] at hz; exact absurd rfl hz
        have hhead : ∀ y r, p = y :: r → y = 47 := by
          intro y r hy
          have hy2 : tail = y :: (r ++ (if hq then 63 :: q else []) ++ (if hf then 35 :: f else [])) := by rw [t1, hy]; simp
          have := out_false.1 (a3 y _ hy2)
          simp only [List.mem_cons, List.not_mem_nil, or_false] at this
          have h2 := t2 y (by rw [hy]; exact List.mem_cons_self)
          rcases this with h | h | h
          · exact h
          · exact absurd h h2.1
          · exact absurd h h2.2
        have hr2 : rightL (p ++ (if hq then 63 :: q else []) ++ (if hf then 35 :: f else [])) = true := by rw [← t1]; exact c5
        refine ⟨rfl, ?_, ?_⟩
        · unfold restT
          rw [← a1, ← b1]
          show name ++ num ++ tail = name ++ portT _ ++ (p ++ (if hq then 63 :: q else []) ++ (if hf then 35 :: f else []))
          rw [← hport.2, ← t1]
        · have hrt := right_tail ⟨sch, name, if (!num.isEmpty) = true then portP (num.drop 1) else 0, p, q, f, hq, hf⟩
          rw [show (p ++ qT ⟨sch, name, if (!num.isEmpty) = true then portP (num.drop 1) else 0, p, q, f, hq, hf⟩ ++ fT ⟨sch, name, if (!num.isEmpty) = true then portP (num.drop 1) else 0, p, q, f, hq, hf⟩) = p ++ (if hq then 63 :: q else []) ++ (if hf then 35 :: f else []) from rfl, hr2] at hrt
          have hrt := hrt.symm
          simp only [Bool.and_eq_true] at hrt
          obtain ⟨⟨g1, g2⟩, g3⟩ := hrt
          refine ⟨by show 1 ≤ name.length; omega, by show name.length ≤ 253; omega, List.all_eq_true.1 c3, hport.1, hhead, t2, t3, hc2, g1, ?_, ?_, t4, t5⟩
          · show rightL q = true
            cases hq with
            | true => exact g2
            | false => rw [t4 rfl]; rfl
          · show rightL f = true
            cases hf with
            | true => exact g3
            | false => rw [t5 rfl]; rfl
  · rintro ⟨h1, h2, hw⟩
    have c3 := hw.hostC; have c4 := hw.port; have c5 := hw.path; have c6 := hw.pathC; have c7 := hw.queryC; have c8 := hw.fragC; have c9 := hw.right; have c10 := hw.noQ; have c11 := hw.noF
    have e1 : rest.takeWhile (out [47, 63, 35]) = l.host ++ portT l.port ∧ rest.dropWhile (out [47, 63, 35]) = l.path ++ qT l ++ fT l := by
      rw [h2]
      unfold restT
      refine tw_app ?_ ?_
      · intro x hx
        rw [out_true]
        have : x ≠ 47 ∧ x ≠ 63 ∧ x ≠ 35 := by
          rcases List.mem_append.1 hx with hx | hx
          · exact (host_not (c3 x hx)).2
          · exact portT_not _ x hx
        simp only [List.mem_cons, List.not_mem_nil, or_false]
        rintro (h | h | h)
        · exact this.1 h
        · exact this.2.1 h
        · exact this.2.2 h
      · intro y r hy
        rw [out_false]
        have := tail_head l c5 y r hy
        simp only [List.mem_cons, List.not_mem_nil, or_false]
        exact this
    have e2 : (l.host ++ portT l.port).takeWhile (ne 58) = l.host ∧ (l.host ++ portT l.port).dropWhile (ne 58) = portT l.port := by
      refine tw_app (fun x hx => ne_true.2 (host_not (c3 x hx)).1) ?_
      intro y r hy
      unfold portT at hy
      split at hy
      · cases hy
      · injection hy with hy _; rw [← hy]; exact ne_false.2 rfl
    have e3 := tailP_of (t := l.path ++ qT l ++ fT l) (p := l.path) (q := l.query) (f := l.frag) (hq := l.hasQ) (hf := l.hasF) ⟨rfl, c6, c7, c10, c11⟩
    unfold restP
    dsimp only
    rw [take_stop, drop_stop, e1.1, e1.2, cut1, e2.1, e2.2, e3]
    dsimp only
    rw [if_neg, if_neg ((index_no 35 l.frag).2 c8)]
    · have hport : (if (!(portT l.port).isEmpty) = true then portP ((portT l.port).drop 1) else 0) = l.port := by
        unfold portT
        by_cases hp : l.port = 0
        · rw [if_pos hp]; exact hp.symm
        · rw [if_neg hp]; exact portP_of l.port c4 hp
      rw [hport, ← h1]
    · rintro (h | h | h | ⟨h, h'⟩ | h)
      · have := hw.host1; omega
      · have := hw.host2; omega
      · rw [List.all_eq_true.2 c3] at h; cases h
      · unfold portT at h h'
        by_cases hp : l.port = 0
        · rw [if_pos hp] at h; cases h
        · rw [if_neg hp] at h'
          exact hp ((portP_of l.port c4 hp).symm.trans h')
      · rw [c9] at h; cases h
/-! ### The whole -/
theorem cut_sch (s : Bs) (sch rest : Bs) (h : ∀ c ∈ sch, c ≠ 58) (hs : s = sch ++ 58 :: 47 :: 47 :: rest) : Lib.cut s [58, 47, 47] = (sch, rest, true) := by
  subst hs
  have hi : ∀ a : Bs, (∀ c ∈ a, c ≠ 58) → Lib.index (a ++ 58 :: 47 :: 47 :: rest) [58, 47, 47] = (a.length : Int) := by
    intro a
    induction a with
    | nil =>
      intro _
      show Lib.index (58 :: 47 :: 47 :: rest) [58, 47, 47] = 0
      unfold Lib.index
      rw [if_pos (by simp [List.isPrefixOf])]
    | cons x a ih =>
      intro ha
      have ih := ih (fun c hc => ha c (List.mem_cons_of_mem _ hc))
      have hx : (58 == x) = false := by rw [beq_eq_false_iff_ne]; exact fun e => ha x List.mem_cons_self e.symm
      rw [List.cons_append]
      unfold Lib.index
      rw [if_neg (by simp [List.isPrefixOf, hx]), ih, if_neg (by simp), List.length_cons]
      rfl
  unfold Lib.cut
  rw [hi sch h, if_pos (by omega), Int.toNat_natCast, List.take_left]
  have : (sch ++ 58 :: 47 :: 47 :: rest).drop (sch.length + ([58, 47, 47] : Bs).length) = rest := by
    rw [← List.drop_drop, List.drop_left]; rfl
  rw [this]
theorem index_occ (sub : Bs) : ∀ (s : Bs) (i : Nat), Lib.index s sub = (i : Int) → sub.isPrefixOf (s.drop i) = true
  | [], i, h => by
    unfold Lib.index at h
    cases sub with
    | nil => rfl
    | cons a r => simp at h
  | x :: l, i, h => by
    unfold Lib.index at h
    by_cases hp : sub.isPrefixOf (x :: l) = true
    · rw [if_pos hp] at h
      obtain rfl : i = 0 := by omega
      exact hp
    · rw [if_neg hp] at h
      by_cases hi : (Lib.index l sub == -1) = true
      · rw [if_pos hi] at h; omega
      · rw [if_neg hi] at h
        have hge := Lib.index_ge l sub
        have hne : Lib.index l sub ≠ -1 := by simpa using hi
        obtain ⟨i', rfl⟩ : ∃ i', i = i' + 1 := ⟨i - 1, by omega⟩
        rw [List.drop_succ_cons]
        exact index_occ sub l i' (by omega)
theorem cut_eq (s sep : Bs) (h : (Lib.cut s sep).2.2 = true) : s = (Lib.cut s sep).1 ++ sep ++ (Lib.cut s sep).2.1 := by
  unfold Lib.cut at h ⊢
  by_cases hi : 0 ≤ Lib.index s sep
  · rw [if_pos hi]
    obtain ⟨i, hi2⟩ : ∃ i : Nat, Lib.index s sep = i := ⟨(Lib.index s sep).toNat, by omega⟩
    rw [hi2]
    dsimp only
    rw [Int.toNat_natCast]
    have ho := index_occ sep s i hi2
    obtain ⟨t, ht⟩ := List.isPrefixOf_iff_prefix.1 ho
    conv => lhs; rw [← List.take_append_drop i s, ← ht]
    rw [← List.drop_drop, ← ht, List.drop_left, List.append_assoc]
  · rw [if_neg hi] at h; cases h
theorem print_eq (l : Link) : printL l = l.scheme ++ 58 :: 47 :: 47 :: restT l := by
  unfold printL originL restT
  simp
/-- A link is taken apart just where it is one, and printed as it was. -/
theorem parseP_iff (s : Bs) (l : Link) : parseP s = some l ↔ s.length ≤ 2048 ∧ printL l = s ∧ isHttp (small l.scheme) = true ∧ WF l := by
  unfold parseP
  constructor
  · intro h
    split at h
    · cases h
    · rename_i hn
      split at h
      · cases h
      · rename_i hc
        have c1 : (Lib.cut s [58, 47, 47]).2.2 = true := by
          cases h : (Lib.cut s [58, 47, 47]).2.2 with
          | true => rfl
          | false => exact absurd (.inl h) hc
        have c2 : isHttp (Lib.toLowerD (Lib.cut s [58, 47, 47]).1) = true := by
          cases h : isHttp (Lib.toLowerD (Lib.cut s [58, 47, 47]).1) with
          | true => rfl
          | false => exact absurd (.inr h) hc
        obtain ⟨h1, h2, h3⟩ := (restP_iff _ _ _).1 h
        rw [low_http] at c2
        refine ⟨by omega, ?_, by rw [h1]; exact c2, h3⟩
        rw [print_eq, h1, ← h2]
        have := cut_eq s _ c1
        conv => rhs; rw [this]
        simp
  · rintro ⟨h1, h2, h3, h4⟩
    have hc := cut_sch s l.scheme (restT l) (sch_not h3) (by rw [← h2, print_eq])
    rw [if_neg (by omega), hc]
    dsimp only
    rw [if_neg (by rw [low_http, h3]; simp)]
    exact (restP_iff _ _ _).2 ⟨rfl, rfl, h4⟩
end Go.Proofs.YtcpkkaimingnlaaGreatDoor
end
section
namespace Go.Proofs.YtcpkkaimingnlaaGreatDoor

/-- A digit of a base; none. -/
def digR (c : UInt8) (base : Nat) : Option Nat :=
  let n := if digB c = true then some (c.toNat - 48) else if decide (97 ≤ c.toNat) && decide (c.toNat ≤ 102) then some (c.toNat - 87) else if decide (65 ≤ c.toNat) && decide (c.toNat ≤ 70) then some (c.toNat - 55) else none
  n.bind fun d => if base ≤ d then none else some d
def numGo (base : Nat) : Nat → Bs → Nat → Nat → Nat × Nat
  | 0, _, n, k => (n, k)
  | _ + 1, [], n, k => (n, k)
  | m + 1, c :: r, n, k => match digR c base with
    | none => (n, k)
    | some d => numGo base m r (base * n + d) (k + 1)
def numR (base most : Nat) (s : Bs) : Nat × Nat := numGo base most s 0 0
def rightR : Bs → Bool
  | [] => true
  | c :: r => decide (33 ≤ c.toNat) && decide (c.toNat ≤ 126) && !marksB.contains c && (c != 37 || !decide ((numR 16 2 r).2 < 2)) && rightR r
def endR (sch host : Bs) (port : Nat) (t : Bs) : Option Link :=
  match t with
  | [] => some ⟨sch, host, port, [], [], [], false, false⟩
  | c :: r =>
    if c ≠ 47 ∧ c ≠ 63 ∧ c ≠ 35 then none
    else if rightR (c :: r) = false then none
    else if (tailR (c :: r)).2.2.1.contains 35 then none
    else some ⟨sch, host, port, (tailR (c :: r)).1, (tailR (c :: r)).2.1, (tailR (c :: r)).2.2.1, (tailR (c :: r)).2.2.2.1, (tailR (c :: r)).2.2.2.2⟩
def afterR (sch h t : Bs) : Option Link :=
  match t with
  | 58 :: u => if (numR 10 5 u).2 = 0 ∨ u.head? = some 48 ∨ 65535 < (numR 10 5 u).1 then none else endR sch h (numR 10 5 u).1 (u.drop (numR 10 5 u).2)
  | t => endR sch h 0 t
theorem afterR_no (sch h t : Bs) (ht : ∀ u, t ≠ 58 :: u) : afterR sch h t = endR sch h 0 t := by
  unfold afterR
  split
  · rename_i u; exact absurd rfl (ht u)
  · rfl
def hostR (sch rest : Bs) : Option Link :=
  let h := rest.takeWhile (out [58, 47, 63, 35])
  let t := rest.dropWhile (out [58, 47, 63, 35])
  if h.all hostB = false then none
  else if h.length < 1 ∨ 253 < h.length then none
  else afterR sch h t
def parseR (s : Bs) : Option Link :=
  if 2048 < s.length then none
  else if isHttp (small (s.takeWhile (ne 58))) = false ∨ s.length < (s.takeWhile (ne 58)).length + 3 ∨ (s.dropWhile (ne 58)).take 3 ≠ [58, 47, 47] then none
  else hostR (s.takeWhile (ne 58)) ((s.dropWhile (ne 58)).drop 3)

theorem digR_10 (c : UInt8) : digR c 10 = if digB c = true then some (c.toNat - 48) else none := by
  have := c.toNat_lt
  unfold digR
  dsimp only
  by_cases h : digB c = true
  · rw [if_pos h, if_pos h]
    unfold digB at h
    simp only [Bool.and_eq_true, decide_eq_true_eq] at h
    show (if 10 ≤ c.toNat - 48 then none else some _) = _
    rw [if_neg (by omega)]
  · rw [if_neg h, if_neg h]
    split
    · rename_i h2
      simp only [Bool.and_eq_true, decide_eq_true_eq] at h2
      show (if 10 ≤ c.toNat - 87 then none else some _) = _
      rw [if_pos (by omega)]
    · split
      · rename_i h2
        simp only [Bool.and_eq_true, decide_eq_true_eq] at h2
        show (if 10 ≤ c.toNat - 55 then none else some _) = _
        rw [if_pos (by omega)]
      · rfl
theorem digR_16 (c : UInt8) : digR c 16 = if hexB c = true then some (hexV c) else none := by
  have := c.toNat_lt
  unfold digR hexB hexV
  dsimp only
  by_cases h : digB c = true
  · rw [if_pos h, h]
    unfold digB at h
    simp only [Bool.and_eq_true, decide_eq_true_eq] at h
    show (if 16 ≤ c.toNat - 48 then none else some _) = _
    rw [if_neg (by omega), if_pos (by simp), if_pos (by omega)]
  · rw [if_neg h]
    have h' : digB c = false := by simpa using h
    rw [h', Bool.false_or]
    split
    · rename_i h2
      rw [h2]
      simp only [Bool.and_eq_true, decide_eq_true_eq] at h2
      show (if 16 ≤ c.toNat - 87 then none else some _) = _
      rw [if_neg (by omega), if_pos (by simp), if_neg (by omega), if_neg (by omega)]
    · rename_i h2
      have h2' : (decide (97 ≤ c.toNat) && decide (c.toNat ≤ 102)) = false := by simpa using h2
      rw [h2', Bool.false_or]
      split
      · rename_i h3
        simp only [Bool.and_eq_true, decide_eq_true_eq] at h3
        show (if 16 ≤ c.toNat - 55 then none else some _) = _
        rw [if_neg (by omega), if_neg (by omega), if_pos (by omega)]
      · rfl
theorem hex2_cons (a b : UInt8) (r : Bs) : hex2 (a :: b :: r) = (hexB a && hexB b) := rfl
theorem numR_hex (s : Bs) : decide ((numR 16 2 s).2 < 2) = !hex2 s ∧ (hex2 s = true → ∃ a b r, s = a :: b :: r ∧ (numR 16 2 s).1 = 16 * hexV a + hexV b ∧ (numR 16 2 s).2 = 2) := by
  match s with
  | [] => exact ⟨rfl, fun h => by cases h⟩
  | [a] =>
    refine ⟨?_, fun h => by cases h⟩
    unfold numR numGo
    rw [digR_16]
    split
    · rfl
    · rename_i h
      split at h
      · injection h with h; rfl
      · cases h
  | a :: b :: r =>
    rw [hex2_cons]
    unfold numR numGo
    rw [digR_16]
    by_cases ha : hexB a = true
    · rw [if_pos ha, ha]
      dsimp only
      unfold numGo
      rw [digR_16]
      by_cases hb : hexB b = true
      · rw [if_pos hb, hb]
        dsimp only
        unfold numGo
        exact ⟨rfl, fun _ => ⟨a, b, r, rfl, by omega, rfl⟩⟩
      · have hb : hexB b = false := by simpa using hb
        rw [if_neg (by rw [hb]; decide), hb]
        exact ⟨rfl, fun h => by cases h⟩
    · have ha : hexB a = false := by simpa using ha
      rw [if_neg (by rw [ha]; decide), ha]
      exact ⟨rfl, fun h => by cases h⟩
theorem rightR_eq : ∀ s : Bs, rightR s = rightL s
  | [] => rfl
  | c :: r => by
    unfold rightR rightL
    rw [rightR_eq r, (numR_hex r).1, Bool.not_not]
    rfl
/-- Digits at the beginning. -/
theorem numGo_10 : ∀ (m : Nat) (ds u : Bs) (n k : Nat), (∀ c ∈ ds, digB c = true) → (∀ y r, u = y :: r → digB y = false) →
    numGo 10 m (ds ++ u) n k = (((ds.take m).foldl (fun n c => 10 * n + (c.toNat - 48)) n), k + min m ds.length)
  | 0, ds, u, n, k, _, _ => by simp [numGo]
  | m + 1, [], [], n, k, _, _ => by simp [numGo]
  | m + 1, [], y :: u, n, k, _, hu => by
    have := hu y u rfl
    rw [List.nil_append]
    unfold numGo
    rw [digR_10, if_neg (by rw [this]; decide)]
    simp
  | m + 1, c :: ds, u, n, k, hd, hu => by
    have hc := hd c List.mem_cons_self
    rw [List.cons_append]
    unfold numGo
    rw [digR_10, if_pos hc]
    dsimp only
    rw [numGo_10 m ds u _ _ (fun x hx => hd x (List.mem_cons_of_mem _ hx)) hu, List.take_succ_cons, List.foldl_cons, List.length_cons]
    congr 1
    omega
theorem numR_10 (ds u : Bs) (hd : ∀ c ∈ ds, digB c = true) (hu : ∀ y r, u = y :: r → digB y = false) : numR 10 5 (ds ++ u) = (valD (ds.take 5), min 5 ds.length) := by
  unfold numR
  rw [numGo_10 5 ds u 0 0 hd hu, Nat.zero_add]; rfl
theorem contains_index (c : UInt8) (s : Bs) : s.contains c = true ↔ 0 ≤ Lib.index s [c] := by
  by_cases h : 0 ≤ Lib.index s [c]
  · refine ⟨fun _ => h, fun _ => ?_⟩
    cases hc : s.contains c with
    | true => rfl
    | false =>
      refine absurd h ((index_no c s).2 fun x hx e => ?_)
      subst e
      simp at hc
      exact hc hx
  · refine ⟨fun hc => ?_, fun h2 => absurd h2 h⟩
    have := (index_no c s).1 h
    simp at hc
    exact absurd rfl (this c hc)
theorem endR_eq (sch host : Bs) (port : Nat) (t : Bs) (ht : ∀ y r, t = y :: r → y = 47 ∨ y = 63 ∨ y = 35) :
    endR sch host port t = if rightL t = false then none else if 0 ≤ Lib.index (tailP t).2.2.1 [35] then none else some ⟨sch, host, port, (tailP t).1, (tailP t).2.1, (tailP t).2.2.1, (tailP t).2.2.2.1, (tailP t).2.2.2.2⟩ := by
  cases t with
  | nil => rfl
  | cons c r =>
    unfold endR
    dsimp only
    have := ht c r rfl
    rw [if_neg (by rintro ⟨h1, h2, h3⟩; rcases this with h | h | h <;> contradiction), rightR_eq, tailR_eq]
    by_cases h : rightL (c :: r) = false
    · rw [if_pos h, if_pos h]
    · rw [if_neg h, if_neg h]
      by_cases h2 : 0 ≤ Lib.index (tailP (c :: r)).2.2.1 [35]
      · rw [if_pos h2, if_pos ((contains_index _ _).2 h2)]
      · rw [if_neg h2, if_neg (fun h3 => h2 ((contains_index _ _).1 h3))]
theorem hostR_eq (sch rest : Bs) : hostR sch rest = restP sch rest := by
  have a1 := tw_dw (out [47, 63, 35]) rest
  have a2 := tw_mem (p := out [47, 63, 35]) rest
  have a3 := dw_head (p := out [47, 63, 35]) rest
  unfold restP
  dsimp only
  rw [take_stop, drop_stop]
  generalize rest.takeWhile (out [47, 63, 35]) = hp at *
  generalize rest.dropWhile (out [47, 63, 35]) = tail at *
  have b1 := tw_dw (ne 58) hp
  have b2 := tw_mem (p := ne 58) hp
  have b3 := dw_head (p := ne 58) hp
  rw [cut1]
  dsimp only
  generalize hp.takeWhile (ne 58) = name at *
  generalize hp.dropWhile (ne 58) = num at *
  have ht : ∀ y r, tail = y :: r → y = 47 ∨ y = 63 ∨ y = 35 := by
    intro y r h
    have := out_false.1 (a3 y r h)
    simpa only [List.mem_cons, List.not_mem_nil, or_false] using this
  have hnum : ∀ x ∈ num, x ≠ 47 ∧ x ≠ 63 ∧ x ≠ 35 := by
    intro x hx
    have := out_true.1 (a2 x (by rw [← b1]; exact List.mem_append_right _ hx))
    simp only [List.mem_cons, List.not_mem_nil, or_false] at this
    exact ⟨fun h => this (.inl h), fun h => this (.inr (.inl h)), fun h => this (.inr (.inr h))⟩
  have hname : ∀ x ∈ name, x ≠ 58 ∧ x ≠ 47 ∧ x ≠ 63 ∧ x ≠ 35 := by
    intro x hx
    have := out_true.1 (a2 x (by rw [← b1]; exact List.mem_append_left _ hx))
    simp only [List.mem_cons, List.not_mem_nil, or_false] at this
    exact ⟨ne_true.1 (b2 x hx), fun h => this (.inl h), fun h => this (.inr (.inl h)), fun h => this (.inr (.inr h))⟩
  have e : rest.takeWhile (out [58, 47, 63, 35]) = name ∧ rest.dropWhile (out [58, 47, 63, 35]) = num ++ tail := by
    rw [← a1, ← b1, List.append_assoc]
    refine tw_app ?_ ?_
    · intro x hx
      rw [out_true]
      simp only [List.mem_cons, List.not_mem_nil, or_false]
      have := hname x hx
      rintro (h | h | h | h)
      · exact this.1 h
      · exact this.2.1 h
      · exact this.2.2.1 h
      · exact this.2.2.2 h
    · intro y r hy
      rw [out_false]
      simp only [List.mem_cons, List.not_mem_nil, or_false]
      cases num with
      | nil => exact .inr (ht y r hy)
      | cons c u => injection hy with hy _; rw [← hy]; exact .inl (ne_false.1 (b3 c u rfl))
  unfold hostR
  dsimp only
  rw [e.1, e.2]
  by_cases c3 : name.all hostB = false
  · rw [if_pos c3, if_pos (.inr (.inr (.inl c3)))]
  · rw [if_neg c3]
    by_cases c1 : name.length < 1 ∨ 253 < name.length
    · rw [if_pos c1, if_pos (by rcases c1 with h | h; exact .inl h; exact .inr (.inl h))]
    · rw [if_neg c1]
      cases num with
      | nil =>
        rw [List.nil_append]
        have hc : ∀ u, tail ≠ 58 :: u := fun u hu => by have := ht 58 u hu; exact absurd this (by decide)
        rw [afterR_no _ _ _ hc, endR_eq _ _ _ _ ht]
        have hpz : (!List.isEmpty ([] : Bs)) = false := rfl
        simp only [hpz]
        by_cases c5 : rightL tail = false
        · rw [if_pos c5, if_pos (.inr (.inr (.inr (.inr c5))))]
        · have hneg : ¬ (name.length < 1 ∨ 253 < name.length ∨ name.all hostB = false ∨ (false = true ∧ portP (([] : Bs).drop 1) = 0) ∨ rightL tail = false) := by
            rintro (h | h | h | ⟨h, _⟩ | h)
            · exact c1 (.inl h)
            · exact c1 (.inr h)
            · exact c3 h
            · cases h
            · exact c5 h
          rw [if_neg c5, if_neg hneg]
          rfl
      | cons c u =>
        have hc58 := ne_false.1 (b3 c u rfl)
        subst hc58
        rw [List.cons_append]
        show (if (numR 10 5 (u ++ tail)).2 = 0 ∨ (u ++ tail).head? = some 48 ∨ 65535 < (numR 10 5 (u ++ tail)).1 then none else endR sch name (numR 10 5 (u ++ tail)).1 ((u ++ tail).drop (numR 10 5 (u ++ tail)).2)) = _
        have hz : (!List.isEmpty (58 :: u)) = true := rfl
        simp only [hz, List.drop_succ_cons, List.drop_zero, true_and, if_true]
        -- digits, and what follows them
        have d1 := tw_dw digB u
        have d2 := tw_mem (p := digB) u
        have d3 := dw_head (p := digB) u
        generalize u.takeWhile digB = ds at *
        generalize hw : u.dropWhile digB = w at *
        have hwt : ∀ y r, w ++ tail = y :: r → digB y = false := by
          intro y r h
          cases w with
          | nil =>
            rcases ht y r h with rfl | rfl | rfl <;> decide
          | cons a b => injection h with h _; rw [← h]; exact d3 a b rfl
        have hN := numR_10 ds (w ++ tail) d2 hwt
        rw [← List.append_assoc, d1] at hN
        have hN : numR 10 5 (u ++ tail) = (valD (ds.take 5), min 5 ds.length) := hN
        rw [hN]
        dsimp only
        have hhead : (u ++ tail).head? = some 48 → ds.head? = some 48 ∨ ds = [] := by
          intro h
          cases ds with
          | nil => exact .inr rfl
          | cons a b => rw [← d1, List.cons_append, List.cons_append] at h; exact .inl h
        by_cases hok : u ≠ [] ∧ u.all digB = true ∧ valD u ≤ 65535 ∧ u.head? ≠ some 48
        · obtain ⟨o1, o2, o3, o4⟩ := hok
          have hall : u.takeWhile digB = u ∧ u.dropWhile digB = [] := tw_all (List.all_eq_true.1 o2)
          have hw0 : w = [] := by rw [← hw]; exact hall.2
          subst hw0
          rw [List.append_nil] at d1
          subst d1
          obtain ⟨v1, v2⟩ := decT_val ds.length ds (Nat.le_refl _) o1 d2 o4
          have hlen : ds.length ≤ 5 := by
            have h5 := (decT_spec (valD ds)).2.2.2.2
            rw [v1] at h5
            refine Classical.byContradiction fun hc => ?_
            have h6 : 10 ^ 6 ≤ 10 ^ ds.length := Nat.pow_le_pow_right (by decide) (by omega)
            have : max (valD ds) 1 ≤ 65535 := by omega
            have : (10 : Nat) ^ 6 = 1000000 := by decide
            omega
          rw [List.take_of_length_le hlen, show min 5 ds.length = ds.length by omega]
          have hlp := List.length_pos_iff.2 o1
          rw [if_neg (by
            rintro (h | h | h)
            · omega
            · cases ds with
              | nil => exact o1 rfl
              | cons a b => exact o4 (by rw [List.cons_append] at h; exact h)
            · omega), List.drop_left, endR_eq _ _ _ _ ht]
          have hp : portP ds = valD ds := by unfold portP; rw [if_pos ⟨o1, o2, o3, o4⟩]
          rw [hp]
          by_cases c5 : rightL tail = false
          · rw [if_pos c5, if_pos (.inr (.inr (.inr (.inr c5))))]
          · have hneg : ¬ (name.length < 1 ∨ 253 < name.length ∨ name.all hostB = false ∨ valD ds = 0 ∨ rightL tail = false) := by
              rintro (h | h | h | h | h)
              · exact c1 (.inl h)
              · exact c1 (.inr h)
              · exact c3 h
              · omega
              · exact c5 h
            rw [if_neg c5, if_neg hneg]
        · have hp : portP u = 0 := by unfold portP; rw [if_neg hok]
          rw [if_pos (show name.length < 1 ∨ 253 < name.length ∨ name.all hostB = false ∨ portP u = 0 ∨ rightL tail = false from .inr (.inr (.inr (.inl hp))))]
          by_cases hbad : min 5 ds.length = 0 ∨ (u ++ tail).head? = some 48 ∨ 65535 < valD (ds.take 5)
          · rw [if_pos hbad]
          · rw [if_neg hbad]
            have h1 : ds ≠ [] := by
              intro h; apply hbad; left; rw [h]; rfl
            have h2 : ds.head? ≠ some 48 := by
              intro h; apply hbad; right; left
              cases ds with
              | nil => cases h
              | cons a b => rw [← d1]; exact h
            -- what is left begins with a byte that is no mark
            obtain ⟨y, r, hy⟩ : ∃ y r, (u ++ tail).drop (min 5 ds.length) = y :: r ∧ (y ≠ 47 ∧ y ≠ 63 ∧ y ≠ 35) := by
              by_cases h5 : ds.length ≤ 5
              · rw [show min 5 ds.length = ds.length by omega]
                rw [← d1, List.append_assoc, List.drop_left]
                cases w with
                | nil =>
                  exfalso
                  apply hok
                  rw [List.append_nil] at d1
                  subst d1
                  refine ⟨h1, List.all_eq_true.2 d2, ?_, h2⟩
                  refine Nat.le_of_not_lt fun h => hbad (.inr (.inr ?_))
                  rw [List.take_of_length_le h5]; exact h
                | cons a b => exact ⟨a, b ++ tail, rfl, hnum a (by rw [← d1]; simp)⟩
              · have h55 : min 5 ds.length = 5 := by omega
                rw [h55]
                cases hdd : ds.drop 5 with
                | nil => have := congrArg List.length hdd; rw [List.length_drop, List.length_nil] at this; omega
                | cons a b =>
                  refine ⟨a, b ++ w ++ tail, ?_, ?_⟩
                  · rw [← d1, List.append_assoc, List.drop_append_of_le_length (by omega), hdd]; simp
                  · have : a ∈ ds := List.mem_of_mem_drop (by rw [hdd]; exact List.mem_cons_self)
                    have := dig_not (d2 a this)
                    exact this.2
            rw [hy.1]
            unfold endR
            dsimp only
            rw [if_pos hy.2]
theorem parseR_eq (s : Bs) : parseR s = parseP s := by
  unfold parseR parseP
  by_cases h1 : 2048 < s.length
  · rw [if_pos h1, if_pos h1]
  · rw [if_neg h1, if_neg h1]
    have a1 := tw_dw (ne 58) s
    have a2 := tw_mem (p := ne 58) s
    by_cases h2 : isHttp (small (s.takeWhile (ne 58))) = false ∨ s.length < (s.takeWhile (ne 58)).length + 3 ∨ (s.dropWhile (ne 58)).take 3 ≠ [58, 47, 47]
    · rw [if_pos h2]
      by_cases h3 : (Lib.cut s [58, 47, 47]).2.2 = false ∨ isHttp (Lib.toLowerD (Lib.cut s [58, 47, 47]).1) = false
      · rw [if_pos h3]
      · exfalso
        have c1 : (Lib.cut s [58, 47, 47]).2.2 = true := by
          cases h : (Lib.cut s [58, 47, 47]).2.2 with
          | true => rfl
          | false => exact absurd (.inl h) h3
        have c2 : isHttp (Lib.toLowerD (Lib.cut s [58, 47, 47]).1) = true := by
          cases h : isHttp (Lib.toLowerD (Lib.cut s [58, 47, 47]).1) with
          | true => rfl
          | false => exact absurd (.inr h) h3
        rw [low_http] at c2
        have hs := cut_eq s _ c1
        generalize (Lib.cut s [58, 47, 47]).1 = sch at *
        generalize (Lib.cut s [58, 47, 47]).2.1 = rest at *
        have e : s.takeWhile (ne 58) = sch ∧ s.dropWhile (ne 58) = 58 :: 47 :: 47 :: rest := by
          rw [hs, List.append_assoc]
          refine tw_app (fun x hx => ne_true.2 (sch_not c2 x hx)) ?_
          intro y r hy
          injection hy with hy _
          rw [← hy]; exact ne_false.2 rfl
        rw [e.1, e.2] at h2
        rcases h2 with h | h | h
        · rw [c2] at h; cases h
        · rw [hs] at h; simp only [List.length_append, List.length_cons, List.length_nil] at h; omega
        · exact h rfl
    · rw [if_neg h2]
      have c1 : isHttp (small (s.takeWhile (ne 58))) = true := by
        cases h : isHttp (small (s.takeWhile (ne 58))) with
        | true => rfl
        | false => exact absurd (.inl h) h2
      have c3 : (s.dropWhile (ne 58)).take 3 = [58, 47, 47] := Classical.byContradiction fun h => h2 (.inr (.inr h))
      have hd : s.dropWhile (ne 58) = 58 :: 47 :: 47 :: (s.dropWhile (ne 58)).drop 3 := by
        conv => lhs; rw [← List.take_append_drop 3 (s.dropWhile (ne 58)), c3]
        rfl
      have hc := cut_sch s (s.takeWhile (ne 58)) ((s.dropWhile (ne 58)).drop 3) (sch_not c1) (by rw [← hd, a1])
      rw [hc]
      dsimp only
      rw [if_neg (by rw [low_http, c1]; simp)]
      exact hostR_eq _ _
end Go.Proofs.YtcpkkaimingnlaaGreatDoor
end
section
namespace Go.Proofs.YtcpkkaimingnlaaGreatDoor

/-- A text at every such byte. -/
def splitC (c : UInt8) : Bs → List Bs
  | [] => [[]]
  | x :: s => if x = c then [] :: splitC c s else
    match splitC c s with
    | [] => [[x]]
    | p :: r => (x :: p) :: r
def joinC (c : UInt8) : List Bs → Bs
  | [] => []
  | [p] => p
  | p :: q :: r => p ++ c :: joinC c (q :: r)
theorem splitC_ne (c : UInt8) (s : Bs) : splitC c s ≠ [] := by
  cases s with
  | nil => simp [splitC]
  | cons x s =>
    unfold splitC
    split
    · simp
    · split <;> simp
theorem joinC_cons (c : UInt8) (p : Bs) {r : List Bs} (h : r ≠ []) : joinC c (p :: r) = p ++ c :: joinC c r := by
  cases r with
  | nil => exact absurd rfl h
  | cons q r => rfl
theorem splitC_hit (c : UInt8) (s : Bs) : splitC c (c :: s) = [] :: splitC c s := by
  rw [splitC, if_pos rfl]
theorem splitC_miss {c x : UInt8} (s : Bs) (h : x ≠ c) : ∃ p r, splitC c s = p :: r ∧ splitC c (x :: s) = (x :: p) :: r := by
  obtain ⟨p, r, e⟩ : ∃ p r, splitC c s = p :: r := by
    cases hs : splitC c s with
    | nil => exact absurd hs (splitC_ne c s)
    | cons p r => exact ⟨p, r, rfl⟩
  refine ⟨p, r, e, ?_⟩
  rw [splitC, if_neg h, e]
theorem join_split (c : UInt8) : ∀ s : Bs, joinC c (splitC c s) = s
  | [] => rfl
  | x :: s => by
    have ih := join_split c s
    by_cases h : x = c
    · subst h
      rw [splitC_hit, joinC_cons x [] (splitC_ne x s), ih]; rfl
    · obtain ⟨p, r, e1, e2⟩ := splitC_miss s h
      rw [e1] at ih
      rw [e2]
      cases r with
      | nil => show x :: p = _; rw [← ih]; rfl
      | cons q r => rw [joinC_cons c (x :: p) (by simp)]; rw [joinC_cons c p (by simp)] at ih; rw [List.cons_append, ih]
theorem split_mem (c : UInt8) : ∀ (s : Bs), ∀ p ∈ splitC c s, ∀ x ∈ p, x ≠ c ∧ x ∈ s
  | [], p, hp, x, hx => by rw [splitC, List.mem_singleton] at hp; subst hp; cases hx
  | y :: s, p, hp, x, hx => by
    have ih := split_mem c s
    by_cases h : y = c
    · subst h
      rw [splitC_hit] at hp
      rcases List.mem_cons.1 hp with rfl | hp
      · cases hx
      · exact ⟨(ih p hp x hx).1, List.mem_cons_of_mem _ (ih p hp x hx).2⟩
    · obtain ⟨q, r, e1, e2⟩ := splitC_miss s h
      rw [e2] at hp
      rcases List.mem_cons.1 hp with rfl | hp
      · rcases List.mem_cons.1 hx with rfl | hx
        · exact ⟨h, List.mem_cons_self⟩
        · have := ih q (by rw [e1]; exact List.mem_cons_self) x hx
          exact ⟨this.1, List.mem_cons_of_mem _ this.2⟩
      · have := ih p (by rw [e1]; exact List.mem_cons_of_mem _ hp) x hx
        exact ⟨this.1, List.mem_cons_of_mem _ this.2⟩
theorem split_app (c : UInt8) : ∀ (p s : Bs), (∀ x ∈ p, x ≠ c) → splitC c (p ++ c :: s) = p :: splitC c s
  | [], s, _ => splitC_hit c s
  | x :: p, s, h => by
    obtain ⟨q, r, e1, e2⟩ := splitC_miss (c := c) (p ++ c :: s) (h x List.mem_cons_self)
    rw [split_app c p s (fun y hy => h y (List.mem_cons_of_mem _ hy))] at e1
    injection e1 with e3 e4
    rw [List.cons_append, e2, e3, e4]
theorem split_one (c : UInt8) : ∀ (p : Bs), (∀ x ∈ p, x ≠ c) → splitC c p = [p]
  | [], _ => rfl
  | x :: p, h => by
    obtain ⟨q, r, e1, e2⟩ := splitC_miss (c := c) p (h x List.mem_cons_self)
    rw [split_one c p (fun y hy => h y (List.mem_cons_of_mem _ hy))] at e1
    injection e1 with e3 e4
    rw [e2, ← e3, ← e4]
theorem split_join (c : UInt8) : ∀ (l : List Bs), l ≠ [] → (∀ p ∈ l, ∀ x ∈ p, x ≠ c) → splitC c (joinC c l) = l
  | [], h, _ => absurd rfl h
  | [p], _, h => split_one c p (h p List.mem_cons_self)
  | p :: q :: r, _, h => by
    rw [joinC_cons c p (by simp), split_app c p _ (h p List.mem_cons_self), split_join c (q :: r) (by simp) (fun x hx => h x (List.mem_cons_of_mem _ hx))]
theorem join_mem (c : UInt8) : ∀ (l : List Bs), ∀ x ∈ joinC c l, x = c ∨ ∃ p ∈ l, x ∈ p
  | [], x, h => by cases h
  | [p], x, h => .inr ⟨p, List.mem_cons_self, h⟩
  | p :: q :: r, x, h => by
    rw [joinC_cons c p (by simp)] at h
    rcases List.mem_append.1 h with h | h
    · exact .inr ⟨p, List.mem_cons_self, h⟩
    · rcases List.mem_cons.1 h with h | h
      · exact .inl h
      · rcases join_mem c (q :: r) x h with h | ⟨y, hy, h⟩
        · exact .inl h
        · exact .inr ⟨y, List.mem_cons_of_mem _ hy, h⟩
theorem join_len_sub (c : UInt8) : ∀ (l : List Bs), l ≠ [] → (joinC c l).length + 1 = (l.map (fun p => p.length + 1)).sum
  | [], h => absurd rfl h
  | [p], _ => by simp [joinC]
  | p :: q :: r, _ => by
    have := join_len_sub c (q :: r) (by simp)
    rw [joinC_cons c p (by simp), List.map_cons, List.sum_cons, List.length_append, List.length_cons]; omega

/-! ### Dots -/
def d1 : Bs := [46]
def d2 : Bs := [46, 46]
def dotsGo : List Bs → List Bs → List Bs
  | [], out => out
  | [x], out => if x = d2 then out.dropLast ++ [[]] else if x = d1 then out ++ [[]] else out ++ [x]
  | x :: y :: r, out => if x = d2 then dotsGo (y :: r) out.dropLast else if x = d1 then dotsGo (y :: r) out else dotsGo (y :: r) (out ++ [x])
def dotsP : Bs → Bs
  | [] => []
  | x :: r => if x = 47 then 47 :: joinC 47 (dotsGo (splitC 47 r) []) else x :: r
theorem dotsP_cons (x : UInt8) (r : Bs) : dotsP (x :: r) = if x = 47 then 47 :: joinC 47 (dotsGo (splitC 47 r) []) else x :: r := rfl
theorem dotsGo_ne : ∀ (l out : List Bs), l ≠ [] → dotsGo l out ≠ []
  | [], _, h => absurd rfl h
  | [x], out, _ => by
    unfold dotsGo
    split
    · simp
    · split <;> simp
  | x :: y :: r, out, _ => by
    unfold dotsGo
    split
    · exact dotsGo_ne (y :: r) _ (by simp)
    · split
      · exact dotsGo_ne (y :: r) _ (by simp)
      · exact dotsGo_ne (y :: r) _ (by simp)
/-- What stands in the answer: pieces that are no dots. -/
theorem dotsGo_mem : ∀ (l out : List Bs), (∀ p ∈ out, p ≠ d1 ∧ p ≠ d2) → ∀ p ∈ dotsGo l out, (p ≠ d1 ∧ p ≠ d2) ∧ (p ∈ out ∨ p ∈ l ∨ p = [])
  | [], out, h, p, hp => ⟨h p hp, .inl hp⟩
  | [x], out, h, p, hp => by
    unfold dotsGo at hp
    split at hp
    · rcases List.mem_append.1 hp with hp | hp
      · have := List.dropLast_subset _ hp
        exact ⟨h p this, .inl this⟩
      · rw [List.mem_singleton.1 hp]; exact ⟨by decide, .inr (.inr rfl)⟩
    · split at hp
      · rcases List.mem_append.1 hp with hp | hp
        · exact ⟨h p hp, .inl hp⟩
        · rw [List.mem_singleton.1 hp]; exact ⟨by decide, .inr (.inr rfl)⟩
      · rename_i h2 h1
        rcases List.mem_append.1 hp with hp | hp
        · exact ⟨h p hp, .inl hp⟩
        · rw [List.mem_singleton.1 hp]; exact ⟨⟨h1, h2⟩, .inr (.inl List.mem_cons_self)⟩
  | x :: y :: r, out, h, p, hp => by
    unfold dotsGo at hp
    split at hp
    · obtain ⟨a, b⟩ := dotsGo_mem (y :: r) out.dropLast (fun q hq => h q (List.dropLast_subset _ hq)) p hp
      refine ⟨a, ?_⟩
      rcases b with b | b | b
      · exact .inl (List.dropLast_subset _ b)
      · exact .inr (.inl (List.mem_cons_of_mem _ b))
      · exact .inr (.inr b)
    · split at hp
      · obtain ⟨a, b⟩ := dotsGo_mem (y :: r) out h p hp
        refine ⟨a, ?_⟩
        rcases b with b | b | b
        · exact .inl b
        · exact .inr (.inl (List.mem_cons_of_mem _ b))
        · exact .inr (.inr b)
      · rename_i h2 h1
        obtain ⟨a, b⟩ := dotsGo_mem (y :: r) (out ++ [x]) (fun q hq => by
          rcases List.mem_append.1 hq with hq | hq
          · exact h q hq
          · rw [List.mem_singleton.1 hq]; exact ⟨h1, h2⟩) p hp
        refine ⟨a, ?_⟩
        rcases b with b | b | b
        · rcases List.mem_append.1 b with b | b
          · exact .inl b
          · rw [List.mem_singleton.1 b]; exact .inr (.inl List.mem_cons_self)
        · exact .inr (.inl (List.mem_cons_of_mem _ b))
        · exact .inr (.inr b)
theorem dotsGo_clean : ∀ (l out : List Bs), (∀ p ∈ l, p ≠ d1 ∧ p ≠ d2) → dotsGo l out = out ++ l
  | [], out, _ => by simp [dotsGo]
  | [x], out, h => by
    have := h x List.mem_cons_self
    unfold dotsGo
    rw [if_neg this.2, if_neg this.1]
  | x :: y :: r, out, h => by
    have := h x List.mem_cons_self
    unfold dotsGo
    rw [if_neg this.2, if_neg this.1, dotsGo_clean (y :: r) _ (fun p hp => h p (List.mem_cons_of_mem _ hp)), List.append_assoc]; rfl
/-- The pieces of a path without dots. -/
theorem dotsGo_pieces (r : Bs) : ∀ p ∈ dotsGo (splitC 47 r) [], (p ≠ d1 ∧ p ≠ d2) ∧ (∀ x ∈ p, x ≠ 47 ∧ x ∈ r) := by
  intro p hp
  obtain ⟨a, b⟩ := dotsGo_mem _ [] (fun _ h => by cases h) p hp
  refine ⟨a, fun x hx => ?_⟩
  rcases b with b | b | b
  · cases b
  · exact split_mem 47 r p b x hx
  · rw [b] at hx; cases hx
theorem dots_idem (p : Bs) : dotsP (dotsP p) = dotsP p := by
  cases p with
  | nil => rfl
  | cons x r =>
    rw [dotsP_cons]
    by_cases h : x = 47
    · rw [if_pos h, dotsP_cons, if_pos rfl, split_join 47 _ (dotsGo_ne _ _ (splitC_ne 47 r)) (fun p hp y hy => ((dotsGo_pieces r p hp).2 y hy).1), dotsGo_clean _ [] (fun p hp => (dotsGo_pieces r p hp).1)]
      rfl
    · rw [if_neg h, dotsP_cons, if_neg h]
/-- The document's. -/
def dotsGoR : List Bs → List Bs → Bool → List Bs × Bool
  | [], out, sl => (out, sl)
  | x :: r, out, _ =>
    dotsGoR r (if x = d1 ∨ x = d2 then (if x = d2 then out.dropLast else out) else out ++ [x]) (decide (x = d1 ∨ x = d2))
def dotsR : Bs → Bs
  | [] => []
  | x :: r => if x = 47 then
      (let o := dotsGoR (splitC 47 r) [] false
       let l := if o.2 = true then o.1 ++ [[]] else o.1
       let s := l.flatMap (fun p => 47 :: p)
       if s = [] then [47] else s)
    else x :: r
theorem dotsR_cons (x : UInt8) (r : Bs) : dotsR (x :: r) = if x = 47 then
      (let o := dotsGoR (splitC 47 r) [] false
       let l := if o.2 = true then o.1 ++ [[]] else o.1
       let s := l.flatMap (fun p => 47 :: p)
       if s = [] then [47] else s)
    else x :: r := rfl
theorem dotsGoR_eq : ∀ (l out : List Bs) (sl : Bool), l ≠ [] → (if (dotsGoR l out sl).2 = true then (dotsGoR l out sl).1 ++ [[]] else (dotsGoR l out sl).1) = dotsGo l out
  | [], _, _, h => absurd rfl h
  | [x], out, sl, _ => by
    unfold dotsGoR dotsGo
    dsimp only [dotsGoR]
    by_cases h2 : x = d2
    · have hn : x = d1 ∨ x = d2 := .inr h2
      rw [if_pos hn, if_pos h2, if_pos h2, decide_eq_true hn]; rfl
    · by_cases h1 : x = d1
      · have hn : x = d1 ∨ x = d2 := .inl h1
        rw [if_pos hn, if_neg h2, if_neg h2, if_pos h1, decide_eq_true hn]; rfl
      · have hn : ¬ (x = d1 ∨ x = d2) := by rintro (h | h); exact h1 h; exact h2 h
        rw [if_neg hn, if_neg h2, if_neg h1, decide_eq_false hn]; rfl
  | x :: y :: r, out, sl, _ => by
    have ih := fun out sl => dotsGoR_eq (y :: r) out sl (by simp)
    rw [dotsGoR, dotsGo]
    by_cases h2 : x = d2
    · have hn : x = d1 ∨ x = d2 := .inr h2
      rw [if_pos hn, if_pos h2, if_pos h2, ih]
    · by_cases h1 : x = d1
      · have hn : x = d1 ∨ x = d2 := .inl h1
        rw [if_pos hn, if_neg h2, if_neg h2, if_pos h1, ih]
      · have hn : ¬ (x = d1 ∨ x = d2) := by rintro (h | h); exact h1 h; exact h2 h
        rw [if_neg hn, if_neg h2, if_neg h1, ih]
theorem flat_join (c : UInt8) : ∀ (l : List Bs), l ≠ [] → l.flatMap (fun p => c :: p) = c :: joinC c l
  | [], h => absurd rfl h
  | [p], _ => by simp [joinC]
  | p :: q :: r, _ => by
    rw [List.flatMap_cons, flat_join c (q :: r) (by simp), joinC_cons c p (by simp)]; simp
theorem dotsR_eq (p : Bs) : dotsR p = dotsP p := by
  cases p with
  | nil => rfl
  | cons x r =>
    rw [dotsR_cons, dotsP_cons]
    by_cases h : x = 47
    · rw [if_pos h, if_pos h]
      dsimp only
      rw [dotsGoR_eq _ _ _ (splitC_ne 47 r), flat_join 47 _ (dotsGo_ne _ _ (splitC_ne 47 r)), if_neg (by simp)]
    · rw [if_neg h, if_neg h]
/-- Go's own Split and Join. -/
theorem split_lib (c : UInt8) : ∀ s : Bs, Lib.split s [c] = splitC c s := by
  have key : ∀ (k : Nat) (s : Bs), s.count c = k → Lib.splitK [c] 0 k s = splitC c s := by
    intro k
    induction k with
    | zero =>
      intro s hs
      have : ∀ x ∈ s, x ≠ c := fun x hx e => by subst e; exact absurd (List.count_pos_iff.2 hx) (by omega)
      rw [split_one c s this]; rfl
    | succ k ih =>
      intro s hs
      have h1 := tw_dw (ne c) s
      have h2 := tw_mem (p := ne c) s
      have h3 := dw_head (p := ne c) s
      unfold Lib.splitK
      rw [index1]
      cases hd : s.dropWhile (ne c) with
      | nil =>
        exfalso
        rw [hd, List.append_nil] at h1
        have : s.count c = 0 := by
          rw [List.count_eq_zero]
          intro hm
          exact absurd rfl (ne_true.1 (h2 c (by rw [h1]; exact hm)))
        omega
      | cons y r =>
        have hy := ne_false.1 (h3 y r hd)
        subst hy
        rw [if_neg (by simp), if_neg (by simp), Int.toNat_natCast, Nat.add_zero, take_tw, ← List.drop_drop, drop_tw, hd]
        have hs2 : s = s.takeWhile (ne y) ++ y :: r := by rw [← hd, h1]
        have hc0 : (s.takeWhile (ne y)).count y = 0 := by
          rw [List.count_eq_zero]
          intro hm
          exact absurd rfl (ne_true.1 (h2 y hm))
        have hr : r.count y = k := by
          rw [hs2, List.count_append, hc0, List.count_cons_self] at hs; omega
        conv => rhs; rw [hs2]
        rw [split_app y _ r (fun x hx => ne_true.1 (h2 x hx))]
        show _ :: Lib.splitK [y] 0 k r = _
        rw [ih r hr]
  intro s
  unfold Lib.split
  rw [Lib.count_one]
  exact key _ s rfl
theorem join_lib (c : UInt8) : ∀ l : List Bs, Lib.join l [c] = joinC c l
  | [] => rfl
  | [p] => Lib.join_one p [c]
  | p :: q :: r => by
    have ih := join_lib c (q :: r)
    rw [joinC_cons c p (by simp), Lib.join_cons]
    rw [Lib.join_cons] at ih
    rw [← ih]
    simp [Lib.joinTail]
end Go.Proofs.YtcpkkaimingnlaaGreatDoor
end
section
namespace Go.Proofs.YtcpkkaimingnlaaGreatDoor

theorem hexB_iff (c : UInt8) : hexB c = true ↔ (48 ≤ c.toNat ∧ c.toNat ≤ 57) ∨ (97 ≤ c.toNat ∧ c.toNat ≤ 102) ∨ (65 ≤ c.toNat ∧ c.toNat ≤ 70) := by
  unfold hexB digB; simp only [Bool.or_eq_true, Bool.and_eq_true, decide_eq_true_eq, or_assoc]
theorem right_tail2 {c : UInt8} {r : Bs} (h : rightL (c :: r) = true) : okB c = true ∧ (c = 37 → hex2 r = true) ∧ rightL r = true := by
  rw [rightL_cons, Bool.and_eq_true, Bool.and_eq_true, Bool.or_eq_true, bne_iff_ne] at h
  exact ⟨h.1.1, fun e => h.1.2.resolve_left (fun hn => hn e), h.2⟩
theorem right_join (c : UInt8) (h1 : hexB c = false) (h2 : c ≠ 37) (h3 : okB c = true) : ∀ l : List Bs, rightL (joinC c l) = true ↔ ∀ p ∈ l, rightL p = true
  | [] => by simp [joinC, rightL]
  | [p] => by simp [joinC]
  | p :: q :: r => by
    have ih := right_join c h1 h2 h3 (q :: r)
    rw [joinC_cons c p (by simp), right_app _ (fun y s h => by injection h with h _; rw [← h]; exact h1), right_cons h3 h2, Bool.and_eq_true, ih]
    simp
end Go.Proofs.YtcpkkaimingnlaaGreatDoor
end
section
namespace Go.Proofs.YtcpkkaimingnlaaGreatDoor

theorem dots_head (p : Bs) (h : ∀ y r, p = y :: r → y = 47) : ∀ y r, dotsP p = y :: r → y = 47 := by
  intro y r hy
  cases p with
  | nil => cases hy
  | cons x s =>
    have hx := h x s rfl
    rw [dotsP_cons, if_pos hx] at hy
    injection hy with hy _
    exact hy.symm
theorem dots_mem (p : Bs) : ∀ x ∈ dotsP p, x ∈ p := by
  intro x hx
  cases p with
  | nil => cases hx
  | cons y r =>
    rw [dotsP_cons] at hx
    by_cases h : y = 47
    · rw [if_pos h] at hx
      rcases List.mem_cons.1 hx with rfl | hx
      · rw [h]; exact List.mem_cons_self
      · rcases join_mem 47 _ x hx with rfl | ⟨q, hq, hx⟩
        · rw [h]; exact List.mem_cons_self
        · exact List.mem_cons_of_mem _ ((dotsGo_pieces r q hq).2 x hx).2
    · rw [if_neg h] at hx; exact hx
/-- A path that is right, in its one form: so it is without its dots. -/
theorem split_right (r : Bs) (h : rightL r = true) : ∀ p ∈ splitC 47 r, rightL p = true := by
  have := (right_join 47 (by decide) (by decide) (by decide) (splitC 47 r)).1 (by rw [join_split]; exact h)
  exact this
theorem dots_right (p : Bs) (h : rightL p = true) : rightL (dotsP p) = true := by
  cases p with
  | nil => rfl
  | cons y r =>
    rw [dotsP_cons]
    by_cases hy : y = 47
    · rw [if_pos hy, right_cons (by decide) (by decide), right_join 47 (by decide) (by decide) (by decide)]
      intro q hq
      obtain ⟨_, b⟩ := dotsGo_mem _ [] (fun _ h => by cases h) q hq
      rcases b with b | b | b
      · cases b
      · exact split_right r (right_tail2 h).2.2 q b
      · rw [b]; rfl
    · rw [if_neg hy]; exact h
theorem sum_le_of {f : Bs → Nat} : ∀ (l m : List Bs), l.Sublist m → (l.map f).sum ≤ (m.map f).sum
  | _, _, .slnil => Nat.le_refl _
  | _, _, .cons a h => by rw [List.map_cons, List.sum_cons]; have := sum_le_of (f := f) _ _ h; omega
  | _, _, .cons_cons a h => by rw [List.map_cons, List.map_cons, List.sum_cons, List.sum_cons]; have := sum_le_of (f := f) _ _ h; omega
/-- It gets no longer. -/
theorem dotsGo_len : ∀ (l out : List Bs), l ≠ [] → ((dotsGo l out).map (fun p => p.length + 1)).sum ≤ (out.map (fun p => p.length + 1)).sum + (l.map (fun p => p.length + 1)).sum
  | [], _, h => absurd rfl h
  | [x], out, _ => by
    have hd := sum_le_of (f := fun p => p.length + 1) _ _ (List.dropLast_sublist out)
    unfold dotsGo
    split
    · rename_i h; rw [h]; simp only [List.map_append, List.sum_append, List.map_cons, List.map_nil, List.sum_cons, List.sum_nil]; simp [d2] at *; omega
    · split
      · rename_i h; rw [h]; simp only [List.map_append, List.sum_append, List.map_cons, List.map_nil, List.sum_cons, List.sum_nil]; simp [d1]
      · simp
  | x :: y :: r, out, _ => by
    have hd := sum_le_of (f := fun p => p.length + 1) _ _ (List.dropLast_sublist out)
    have ih := fun o => dotsGo_len (y :: r) o (by simp)
    unfold dotsGo
    rw [List.map_cons, List.sum_cons]
    split
    · have := ih out.dropLast; omega
    · split
      · have := ih out; omega
      · have := ih (out ++ [x]); rw [List.map_append, List.sum_append, List.map_cons, List.map_nil, List.sum_cons, List.sum_nil] at this; omega
theorem dots_len (p : Bs) : (dotsP p).length ≤ p.length := by
  cases p with
  | nil => exact Nat.le_refl _
  | cons y r =>
    rw [dotsP_cons]
    by_cases hy : y = 47
    · rw [if_pos hy, List.length_cons, List.length_cons]
      have h1 := dotsGo_len (splitC 47 r) [] (splitC_ne 47 r)
      have h2 := join_len_sub 47 _ (dotsGo_ne (splitC 47 r) [] (splitC_ne 47 r))
      have h3 := join_len_sub 47 _ (splitC_ne 47 r)
      rw [join_split] at h3
      rw [List.map_nil, List.sum_nil] at h1
      omega
    · rw [if_neg hy]; exact Nat.le_refl _

/-! ### Canon -/
end Go.Proofs.YtcpkkaimingnlaaGreatDoor
end
section
namespace Go.Proofs.YtcpkkaimingnlaaGreatDoor

def absP (s : Bs) : Bool :=
  match s, s.dropWhile (out [58, 47, 63, 35]) with
  | c :: _, d :: _ => decide (0 < stop [58, 47, 63, 35] s) && (d == 58) && (alB c && decide (57 < c.toNat))
  | _, _ => false
def dottedP (t : Bs) : Option Link := (parseP t).map fun l => { l with path := dotsP l.path }
/-- A path up to its last slash. -/
def upTo : Bs → Bs
  | [] => []
  | c :: r => if c = 47 ∨ (upTo r ≠ []) then c :: upTo r else []
def bareF (l : Link) : Link := { l with frag := [], hasF := false }
def bareQ (l : Link) : Link := { l with query := [], hasQ := false, frag := [], hasF := false }
def baseP (l : Link) : Link := { bareQ l with path := if upTo l.path = [] then [47] else upTo l.path }
def resolveP (b : Link) (s : Bs) : Option Link :=
  if absP s = true then parseP s
  else if Lib.hasPrefix s [47, 47] = true then dottedP (b.scheme ++ [58] ++ s)
  else if Lib.hasPrefix s [47] = true then dottedP (originL b ++ s)
  else match s with
    | [] => parseP (printL (bareF b) ++ s)
    | c :: _ => if c = 35 then parseP (printL (bareF b) ++ s)
      else if c = 63 then parseP (printL (bareQ b) ++ s)
      else dottedP (printL (baseP b) ++ s)

/-! ### Links come back -/
theorem WF.dots {l : Link} (h : WF l) : WF { l with path := dotsP l.path } :=
  ⟨h.host1, h.host2, h.hostC, h.port, dots_head _ h.path, fun c hc => h.pathC c (dots_mem _ c hc), h.queryC, h.fragC, dots_right _ h.pathR, h.queryR, h.fragR, h.noQ, h.noF⟩
theorem print_dots (l : Link) : (printL { l with path := dotsP l.path }).length ≤ (printL l).length := by
  have := dots_len l.path
  show (originL l ++ dotsP l.path ++ qT l ++ fT l).length ≤ (originL l ++ l.path ++ qT l ++ fT l).length
  simp only [List.length_append]; omega
theorem parse_back {s : Bs} {l : Link} (h : parseP s = some l) : parseP (printL l) = some l := by
  have := (parseP_iff s l).1 h
  rw [this.2.1]; exact h
theorem dotted_back {s : Bs} {r : Link} (h : dottedP s = some r) : parseP (printL r) = some r ∧ dotsP r.path = r.path := by
  unfold dottedP at h
  cases hp : parseP s with
  | none => rw [hp] at h; cases h
  | some l =>
    rw [hp] at h
    injection h with h
    subst h
    obtain ⟨h1, h2, h3, h4⟩ := (parseP_iff s l).1 hp
    refine ⟨(parseP_iff _ _).2 ⟨?_, rfl, h3, h4.dots⟩, dots_idem _⟩
    have := print_dots l
    show (printL { l with path := dotsP l.path }).length ≤ 2048
    rw [h2] at this; omega
theorem resolve_back {b : Link} {s : Bs} {r : Link} (h : resolveP b s = some r) : parseP (printL r) = some r := by
  unfold resolveP at h
  split at h
  · exact parse_back h
  · split at h
    · exact (dotted_back h).1
    · split at h
      · exact (dotted_back h).1
      · split at h
        · exact parse_back h
        · split at h
          · exact parse_back h
          · split at h
            · exact parse_back h
            · exact (dotted_back h).1
theorem upTo_cons (c : UInt8) (r : Bs) : upTo (c :: r) = if c = 47 ∨ (upTo r ≠ []) then c :: upTo r else [] := rfl
end Go.Proofs.YtcpkkaimingnlaaGreatDoor
end
section
namespace Go.Proofs.YtcpkkaimingnlaaGreatDoor

/-! ### Percents -/
/-! ### One form -/
/-! ### Resolving -/
theorem upTo_pre : ∀ p : Bs, ∃ r, p = upTo p ++ r ∧ 47 ∉ r
  | [] => ⟨[], rfl, by simp⟩
  | c :: t => by
    obtain ⟨r, h1, h2⟩ := upTo_pre t
    rw [upTo_cons]
    by_cases h : c = 47 ∨ upTo t ≠ []
    · rw [if_pos h]
      exact ⟨r, by rw [List.cons_append, ← h1], h2⟩
    · rw [if_neg h]
      have hc : c ≠ 47 := fun e => h (.inl e)
      have ht : upTo t = [] := Classical.byContradiction fun e => h (.inr e)
      rw [ht, List.nil_append] at h1
      subst h1
      refine ⟨c :: t, rfl, ?_⟩
      intro hm
      rcases List.mem_cons.1 hm with e | e
      · exact hc e.symm
      · exact h2 e
theorem upTo_len (p : Bs) : (upTo p).length ≤ p.length := by
  obtain ⟨r, h1, _⟩ := upTo_pre p
  have := congrArg List.length h1
  rw [List.length_append] at this
  omega
theorem upTo_take (p : Bs) : p.take (upTo p).length = upTo p := by
  obtain ⟨r, h1, _⟩ := upTo_pre p
  have : (upTo p ++ r).take (upTo p).length = upTo p := List.take_left' rfl
  rw [← h1] at this
  exact this
/-- One byte more, from the left: where the last slash ends. -/
theorem upTo_snoc (p : Bs) (c : UInt8) : upTo (p ++ [c]) = if c = 47 then p ++ [c] else upTo p := by
  induction p with
  | nil =>
    rw [List.nil_append, upTo_cons]
    by_cases h : c = 47
    · rw [if_pos (.inl h), if_pos h]; rfl
    · rw [if_neg h, if_neg]
      · rfl
      · rintro (e | e)
        · exact h e
        · exact e rfl
  | cons x p ih =>
    rw [List.cons_append, upTo_cons, ih]
    by_cases h : c = 47
    · rw [if_pos h, if_pos h, if_pos (.inr (by simp))]
    · rw [if_neg h, if_neg h, upTo_cons]
theorem print_bareF (b : Link) : printL (bareF b) = originL b ++ b.path ++ qT b := by
  unfold printL bareF fT qT originL
  simp
theorem print_bareQ (b : Link) : printL (bareQ b) = originL b ++ b.path := by
  unfold printL bareQ fT qT originL
  simp
theorem print_base (b : Link) : printL (baseP b) = originL b ++ (if upTo b.path = [] then [47] else upTo b.path) := by
  unfold printL baseP bareQ fT qT originL
  simp
def absR (s : Bs) : Bool := decide (0 < stop [58, 47, 63, 35] s) && decide (stop [58, 47, 63, 35] s < s.length) && (s.getD (stop [58, 47, 63, 35] s) 0 == 58) && (alB (s.getD 0 0) && (decide ((s.getD 0 0).toNat < 48) || decide (57 < (s.getD 0 0).toNat)))
theorem absR_eq (s : Bs) : absR s = absP s := by
  unfold absR absP
  have hd := drop_stop [58, 47, 63, 35] s
  have hl : stop [58, 47, 63, 35] s ≤ s.length := by unfold stop; exact (List.takeWhile_sublist _).length_le
  generalize stop [58, 47, 63, 35] s = n at *
  generalize s.dropWhile (out [58, 47, 63, 35]) = D at *
  match s, D with
  | [], _ =>
    rw [List.length_nil] at hl
    rw [decide_eq_false (show ¬ 0 < n by omega)]; rfl
  | c :: r, [] =>
    have := congrArg List.length hd
    rw [List.length_drop, List.length_nil] at this
    rw [decide_eq_false (show ¬ n < (c :: r).length by omega), Bool.and_false]; rfl
  | c :: r, d :: t =>
    have hn : n < (c :: r).length := by
      have := congrArg List.length hd
      rw [List.length_drop] at this
      have h1 : (d :: t).length = t.length + 1 := rfl
      omega
    have hg : (c :: r).getD n 0 = d := by
      rw [List.drop_eq_getElem_cons hn] at hd
      injection hd with hd _
      rw [← hd, List.getD_eq_getElem?_getD, List.getElem?_eq_getElem hn]; rfl
    rw [hg, decide_eq_true hn, Bool.and_true]
    dsimp only
    congr 1
    show (alB c && (decide (c.toNat < 48) || decide (57 < c.toNat))) = _
    cases ha : alB c with
    | false => rfl
    | true =>
      rw [alB_iff] at ha
      rw [decide_eq_false (show ¬ c.toNat < 48 by omega)]; rfl

/-! ### Mail -/
end Go.Proofs.YtcpkkaimingnlaaGreatDoor
end
